/- The arguments of a law, read as plain data. No condition. -/
import Derived.Test.YtdiclbejalelfaaFwQ
import Derived.WalkKit
import Derived.ProofKit
import Derived.OpenShut
import Derived.ShutString
import Derived.ChangeOld
import Derived.ChangeArms
import Derived.SizedLaws
import Derived.Carry
set_option linter.unusedVariables false
set_option linter.unusedSimpArgs false
namespace Go.Proofs.Ytdiclbejalelfaa
open Go.RowKit Go.WideShapes Go.ChangeShapes
open Rep (R)

/-- A value of some cells. -/
def mkV : Bool → List Value → Value
  | true, cs => .agg cs.toArray
  | false, c :: _ => c
  | false, [] => undef
/-- All that lies in memory. -/
def gw (w : World) : Ghost := fun p => w.cell? p
/-- What reads as data of a type is some plain value. -/
structure Opn (P : Program) (w : World) (t : TypeId) (α : Type) [Rep α] (wf : α → Prop) (agg : Bool) : Prop where
  opn : ∀ {H : Type} (enc : TypeId × Value → H) (base : Nat) (spare : Nat → Bool) (held : Bool) (fuel : Nat) (cs : List Value) (x : DataW H × List MemPlace), DataW.trod enc P w base spare held fuel t cs = some x →
    ∃ a : α, R (gw w) a (mkV agg cs) ∧ wf a ∧ (mkV agg cs).cells.toList = cs
section
variable {P : Program} {w : World} {t : TypeId}
def wfI (n : Int) : Prop := -9223372036854775808 ≤ n ∧ n ≤ 9223372036854775807
def wfT {α : Type} (_ : α) : Prop := True
def wfL {α : Type} (f : α → Prop) (l : List α) : Prop := (∀ a ∈ l, f a) ∧ l.length ≤ 9223372036854775807
def wfS (s : ByteArray) : Prop := s.size ≤ 9223372036854775807
theorem Opn.int (ht : P.underlying t = some (.int .i64)) : Opn P w t Int wfI false := ⟨fun enc base spare held fuel cs x h => by
  obtain ⟨n, rfl, _, hw⟩ := DataW.trod_int ht h
  refine ⟨n, rfl, ?_, rfl⟩
  simp only [Lit.wf, Bool.and_eq_true, decide_eq_true_eq] at hw
  exact hw⟩
theorem Opn.bool (ht : P.underlying t = some .bool) : Opn P w t Bool wfT false := ⟨fun enc base spare held fuel cs x h => by
  obtain ⟨n, rfl, _⟩ := DataW.trod_bool ht h
  exact ⟨n, rfl, trivial, rfl⟩⟩
theorem Opn.str (ht : P.underlying t = some .string) : Opn P w t ByteArray wfS false := ⟨fun enc base spare held fuel cs x h => by
  obtain ⟨n, rfl, _, hw⟩ := DataW.trod_string ht h
  exact ⟨n, rfl, hw, rfl⟩⟩
theorem list_of {α : Type} {p : Nat → α → Prop} : ∀ n : Nat, (∀ i, i < n → ∃ a, p i a) → ∃ l : List α, l.length = n ∧ ∀ i a, l[i]? = some a → p i a := by
  intro n
  induction n with
  | zero => intro _; exact ⟨[], rfl, fun i a h => by simp at h⟩
  | succ n ih =>
    intro h
    obtain ⟨l, h1, h2⟩ := ih (fun i hi => h i (Nat.lt_succ_of_lt hi))
    obtain ⟨a, ha⟩ := h n (Nat.lt_succ_self n)
    refine ⟨l ++ [a], by simp [h1], fun i b hb => ?_⟩
    rcases Nat.lt_or_ge i n with hlt | hge
    · rw [List.getElem?_append_left (by omega)] at hb; exact h2 i b hb
    · rw [List.getElem?_append_right (by omega), h1] at hb
      rcases Nat.eq_or_lt_of_le hge with rfl | hlt
      · simp at hb; subst hb; exact ha
      · rw [List.getElem?_eq_none (by simp; omega)] at hb; simp at hb
theorem Opn.slice {e : TypeId} {α : Type} [Rep α] {wf : α → Prop} {agg : Bool} (ht : P.underlying t = some (.slice e)) (he : Opn P w e α wf agg) (hc : P.cellsOf e = Rep.sz α) (hp : 0 < Rep.sz α) : Opn P w t (List α) (wfL wf) false := ⟨fun enc base spare held fuel cs x h => by
  rcases DataW.trod_slice ht h with ⟨rfl, _⟩ | ⟨a, len, cap, elems, rest, n, _, rfl, _, _, hl, hm, hlen, hel, _, _⟩
  · exact ⟨[], Sl.nil _, ⟨by simp, by simp⟩, rfl⟩
  · have key : ∀ i, i < len → ∃ y : α, wf y ∧ ∃ u, R (gw w) y u ∧ a.spot = none ∧ CellsAt (gw w) a.block (a.off + i * Rep.sz α) u := by
      intro i hi
      have h1 := hel i hi
      have h2 : i < elems.length := by omega
      rw [List.getElem?_eq_getElem h2] at h1
      obtain ⟨cs', hcs, htr⟩ := Option.bind_eq_some_iff.1 h1
      obtain ⟨y, hy, hw, hcl⟩ := he.opn enc base spare held n cs' _ htr
      obtain ⟨_, hlen', hcell⟩ := World.cells?_some hcs
      have hsp : a.spot = none := by
        have h0 := hel 0 (by omega)
        rw [List.getElem?_eq_getElem (show 0 < elems.length by omega)] at h0
        obtain ⟨cs0, hcs0, _⟩ := Option.bind_eq_some_iff.1 h0
        obtain ⟨_, hl0, hcell0⟩ := World.cells?_some hcs0
        have h5 := hcell0 0 (by omega)
        rw [Nat.zero_mul] at h5
        rw [List.getElem?_eq_getElem (show 0 < cs0.length by omega)] at h5
        simp only [Addr.add, if_true] at h5
        cases hs : a.spot with
        | none => rfl
        | some s =>
          unfold World.cell? at h5
          split at h5
          · simp [hs] at h5
          · simp at h5
      refine ⟨y, hw, _, hy, hsp, fun j c hj => ?_⟩
      rw [hcl] at hj
      have hj' : j < cs'.length := (List.getElem?_eq_some_iff.1 hj).1
      have h3 := hcell j (by omega)
      rw [hj] at h3
      have hadd : (a.add (i * P.cellsOf e)).add j = ⟨a.block, a.off + i * Rep.sz α + j, none⟩ := by
        rw [hc]
        obtain ⟨b, o, s⟩ := a
        simp only at hsp
        subst hsp
        rw [add_none, add_none]
      rw [hadd] at h3
      exact h3
    obtain ⟨l, hll, hl2⟩ := list_of (p := fun i (y : α) => wf y ∧ ∃ u, R (gw w) y u ∧ a.spot = none ∧ CellsAt (gw w) a.block (a.off + i * Rep.sz α) u) len key
    refine ⟨l, ⟨some a, cap, by rw [hll]; rfl, by omega, fun hp => ?_⟩, ⟨fun y hy => ?_, by rw [hll]; exact Nat.le_trans hl hm⟩, rfl⟩
    · obtain ⟨_, _, _, hsp, _⟩ := hl2 0 _ (List.getElem?_eq_getElem hp)
      refine ⟨a.block, a.off, by cases a; simp at hsp; simp [hsp], fun j y hj => ?_⟩
      obtain ⟨_, u, hu, _, hcs⟩ := hl2 j y hj
      exact ⟨u, hu, hcs⟩
    · obtain ⟨i, hi⟩ := List.getElem?_of_mem hy
      exact (hl2 i y hi).1⟩
/-- A field of a struct. -/
theorem Opn.field {H : Type} {enc : TypeId × Value → H} {base : Nat} {spare : Nat → Bool} {held : Bool} {n : Nat} {cs : List Value} {fs : Array Field} {xs : List (DataW H × List MemPlace)} (hf : ∀ (i : Nat) (f : Field), fs[i]? = some f → DataW.trod enc P w base spare held n f.type ((cs.drop f.offset).take (P.cellsOf f.type)) = xs[i]?) (hx : xs.length = fs.size)
    {i : Nat} {f : Field} (hi : fs[i]? = some f) {α : Type} [Rep α] {wf : α → Prop} {agg : Bool} (he : Opn P w f.type α wf agg) {size : Nat} (hs : P.cellsOf f.type = size) : ∃ a : α, R (gw w) a (mkV agg ((cs.drop f.offset).take size)) ∧ wf a := by
  have h1 := hf i f hi
  have hlt : i < fs.size := (Array.getElem?_eq_some_iff.1 hi).1
  rw [List.getElem?_eq_getElem (by omega), hs] at h1
  obtain ⟨a, h2, h3, _⟩ := he.opn enc base spare held n _ _ h1
  exact ⟨a, h2, h3⟩
/-- An argument. -/
theorem Opn.arg {α : Type} [Rep α] {wf : α → Prop} {agg : Bool} (he : Opn P w t α wf agg) {H : Type} {enc : TypeId × Value → H} {base : Nat} {spare : Nat → Bool} {held : Bool} {v : Value} {d : DataW H} {ps : List MemPlace} (h : DataW.Trod enc P w base spare held t v d ps) (hv : mkV agg v.cells.toList = v) : ∃ a : α, R (gw w) a v ∧ wf a := by
  obtain ⟨fuel, hf⟩ := h
  obtain ⟨a, h1, h2, _⟩ := he.opn enc base spare held fuel _ _ hf
  rw [hv] at h1
  exact ⟨a, h1, h2⟩
theorem mkV_int {k : IntKind} {r : Reach} {base : Nat} {v : Value} (ht : P.underlying t = some (.int k)) (h : Value.okWide P w r base t v) : mkV false v.cells.toList = v := by
  obtain ⟨n, rfl⟩ := okWide_int ht h; rfl
theorem mkV_bool {r : Reach} {base : Nat} {v : Value} (ht : P.underlying t = some .bool) (h : Value.okWide P w r base t v) : mkV false v.cells.toList = v := by
  obtain ⟨n, rfl⟩ := okWide_bool ht h; rfl
theorem mkV_str {r : Reach} {base : Nat} {v : Value} (ht : P.underlying t = some .string) (h : Value.okWide P w r base t v) : mkV false v.cells.toList = v := by
  obtain ⟨n, rfl⟩ := okWide_string ht h; rfl
theorem mkV_slice {e : TypeId} {r : Reach} {base : Nat} {v : Value} (ht : P.underlying t = some (.slice e)) (h : Value.okWide P w r base t v) : mkV false v.cells.toList = v := by
  obtain ⟨a, b, c, rfl⟩ := okWide_slice ht h; rfl
theorem mkV_struct {fs : Array Field} {r : Reach} {base : Nat} {v : Value} (ht : P.underlying t = some (.struct fs)) (h : Value.okWide P w r base t v) : mkV true v.cells.toList = v := by
  unfold Value.okWide at h
  rw [ht] at h
  obtain ⟨cs, rfl, _⟩ := h
  rfl
theorem Holds_gw (w : World) : Holds (gw w) w := fun _ _ h => h
/-- A call comes to true, and no elder memory has turned. -/
theorem Ret.true {f : FuncId} {vs : List Value} {G : Ghost} (h : Ret P f vs w G (fun G v => R G true v)) : Calls P f vs.toArray w fun e W' => e = .returned (.bool true) ∧ Below w.heap.size w W' :=
  Calls.mono h fun e W' ⟨v, G', h1, h2, h3⟩ => ⟨by rw [h1]; congr 1, h2.below⟩
end
end Go.Proofs.Ytdiclbejalelfaa
