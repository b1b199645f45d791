/- Data as Lean sees it, and as memory holds it; the operations that read frozen memory, append, hand over. No condition. -/
import Derived.Test.YtdiclbejalelfaaFwF
set_option linter.unusedVariables false
set_option linter.unusedSimpArgs false
namespace Go.Proofs.Ytdiclbejalelfaa
open Go.RowKit

/-- How a Lean value lies in memory. -/
class Rep (α : Type) where
  R : Ghost → α → Value → Prop
  sz : Nat
  mono : ∀ {G H : Ghost} {x : α} {v : Value}, GLe G H → R G x v → R H x v
  size : ∀ {G : Ghost} {x : α} {v : Value}, R G x v → v.cells.size = sz
  one : ∀ {G : Ghost} {x : α} {v : Value}, R G x v → ∀ c ∈ v.cells, c.oneCell' = true
open Rep (R)

instance : Rep Int where
  R _ n v := v = .int .i64 n
  sz := 1
  mono _ h := h
  size h := by rw [h]; rfl
  one h := by rw [h]; intro c hc; simp [Value.cells] at hc; rw [hc]; rfl
/-- Numbers of another kind. -/
structure IK (k : IntKind) where
  n : Int
instance (k : IntKind) : Rep (IK k) where
  R _ x v := v = .int k x.n
  sz := 1
  mono _ h := h
  size h := by rw [h]; rfl
  one h := by rw [h]; intro c hc; simp [Value.cells] at hc; rw [hc]; rfl
instance : Rep Bool where
  R _ n v := v = .bool n
  sz := 1
  mono _ h := h
  size h := by rw [h]; rfl
  one h := by rw [h]; intro c hc; simp [Value.cells] at hc; rw [hc]; rfl
instance : Rep ByteArray where
  R _ n v := v = .string n
  sz := 1
  mono _ h := h
  size h := by rw [h]; rfl
  one h := by rw [h]; intro c hc; simp [Value.cells] at hc; rw [hc]; rfl

/-- The cells of a value are known to lie at a place. -/
def CellsAt (G : Ghost) (b o : Nat) (v : Value) : Prop := ∀ j c, v.cells.toList[j]? = some c → G ⟨b, o + j, none⟩ = some c
theorem CellsAt.mono {G H : Ghost} (h : GLe G H) {b o : Nat} {v : Value} (k : CellsAt G b o v) : CellsAt H b o v := fun j c hc => h _ _ (k j c hc)
theorem CellsAt.fld {G : Ghost} {b o : Nat} {cs : Array Value} (h : CellsAt G b o (.agg cs)) {j : Nat} {c : Value} (hc : nth cs.toList j = some c) (hone : c.cells = #[c]) : CellsAt G b (o + j) c := by
  intro i x hx
  rw [hone] at hx
  cases i with
  | zero => simp at hx; subst hx; rw [nth_eq] at hc; exact h j c hc
  | succ i => simp at hx
theorem CellsAt.sub {G : Ghost} {b o : Nat} {cs : Array Value} (h : CellsAt G b o (.agg cs)) {j n : Nat} {l r : List Value} (hl : dropN j cs.toList = some l) (hr : takeN n l = some r) : CellsAt G b (o + j) (.agg r.toArray) := by
  intro i x hx
  have h1 := dropN_eq hl
  obtain ⟨h2, h3⟩ := takeN_eq hr
  simp only [Value.cells] at hx
  have hi : i < r.length := (List.getElem?_eq_some_iff.1 hx).1
  rw [h2, List.getElem?_take, if_pos (by omega), h1, List.getElem?_drop] at hx
  rw [Nat.add_assoc]
  exact h _ _ hx

def Sl {α : Type} [Rep α] (G : Ghost) (xs : List α) (v : Value) : Prop :=
  ∃ A c, v = .slice A xs.length c ∧ xs.length ≤ c ∧ (0 < xs.length → ∃ b o, A = some ⟨b, o, none⟩ ∧ ∀ j x, xs[j]? = some x → ∃ u, R G x u ∧ CellsAt G b (o + j * Rep.sz α) u)
instance {α : Type} [Rep α] : Rep (List α) where
  R := Sl
  sz := 1
  mono := by
    rintro G H x v hle ⟨A, c, rfl, hl, h⟩
    refine ⟨A, c, rfl, hl, fun hp => ?_⟩
    obtain ⟨b, o, hA, hx⟩ := h hp
    refine ⟨b, o, hA, fun j y hj => ?_⟩
    obtain ⟨u, h1, h2⟩ := hx j y hj
    exact ⟨u, Rep.mono hle h1, h2.mono hle⟩
  size := by
    rintro G x v ⟨A, c, rfl, _⟩
    rfl
  one := by
    rintro G x v ⟨A, c, rfl, _⟩ y hy
    simp [Value.cells] at hy
    rw [hy]; rfl
theorem Sl.open {α : Type} [Rep α] {G : Ghost} {xs : List α} {v : Value} (h : R G xs v) : ∃ A c, v = .slice A xs.length c ∧ R G xs (.slice A xs.length c) := by
  obtain ⟨A, c, rfl, h'⟩ := h
  exact ⟨A, c, rfl, A, c, rfl, h'⟩
theorem Sl.nil {α : Type} [Rep α] (G : Ghost) : R G ([] : List α) (.slice none 0 0) := ⟨none, 0, rfl, Nat.le_refl _, fun h => absurd h (by simp)⟩
theorem R_int {G : Ghost} (n : Int) : R G n (.int .i64 n) := rfl
theorem R_bool {G : Ghost} (n : Bool) : R G n (.bool n) := rfl
theorem R_str {G : Ghost} (n : ByteArray) : R G n (.string n) := rfl

inductive All2 {α β : Type} (P : α → β → Prop) : List α → List β → Prop
  | nil : All2 P [] []
  | cons {a b l m} : P a b → All2 P l m → All2 P (a :: l) (b :: m)
theorem All2.len {α β : Type} {P : α → β → Prop} {l : List α} {m : List β} (h : All2 P l m) : m.length = l.length := by
  induction h with
  | nil => rfl
  | cons _ _ ih => simp [ih]
theorem All2.app {α β : Type} {P : α → β → Prop} {l l' : List α} {m m' : List β} (h : All2 P l m) (k : All2 P l' m') : All2 P (l ++ l') (m ++ m') := by
  induction h with
  | nil => exact k
  | cons h _ ih => exact .cons h ih
theorem All2.one {α β : Type} {P : α → β → Prop} {a : α} {b : β} (h : P a b) : All2 P [a] [b] := .cons h .nil
theorem All2.imp {α β : Type} {P Q : α → β → Prop} {l : List α} {m : List β} (h : All2 P l m) (k : ∀ a b, P a b → Q a b) : All2 Q l m := by
  induction h with
  | nil => exact .nil
  | cons h _ ih => exact .cons (k _ _ h) ih
theorem All2.get {α β : Type} {P : α → β → Prop} {l : List α} {m : List β} (h : All2 P l m) : ∀ {j : Nat} {a : α}, l[j]? = some a → ∃ b, m[j]? = some b ∧ P a b := by
  induction h with
  | nil => intro j a h; simp at h
  | cons h _ ih =>
    intro j a hj
    cases j with
    | zero => simp at hj; subst hj; exact ⟨_, rfl, h⟩
    | succ j => simpa using ih (by simpa using hj)
theorem All2.set {α β : Type} {P : α → β → Prop} {l : List α} {m : List β} (h : All2 P l m) : ∀ {j : Nat} {a : α} {b : β}, P a b → All2 P (l.set j a) (m.set j b) := by
  induction h with
  | nil => intro j a b _; exact .nil
  | cons h _ ih =>
    intro j a b hab
    cases j with
    | zero => exact .cons hab (by assumption)
    | succ j => exact .cons h (ih hab)
/-- A row's elements are those of a list. -/
abbrev Els {α : Type} [Rep α] (G : Ghost) (xs : List α) (es : List Value) : Prop := All2 (R G) xs es
theorem Els.mono {α : Type} [Rep α] {G H : Ghost} {xs : List α} {es : List Value} (h : Els G xs es) (hle : GLe G H) : Els H xs es := All2.imp h (fun _ _ => Rep.mono hle)

/-- An element; a piece; one more; another one in its place. -/
def idx {α : Type} (xs : List α) (i : Int) : Option α := if 0 ≤ i then xs[i.toNat]? else none
def slc {α : Type} (xs : List α) (lo hi : Int) : Option (List α) := if 0 ≤ lo ∧ lo ≤ hi ∧ hi ≤ xs.length then some ((xs.take hi.toNat).drop lo.toNat) else none
def push {α : Type} (xs : List α) (y : α) : Option (List α) := if xs.length < 4294967296 then some (xs ++ [y]) else none
def cat {α : Type} (xs ys : List α) : Option (List α) := if xs.length + ys.length ≤ 4294967296 then some (xs ++ ys) else none
def upd {α : Type} (xs : List α) (i : Int) (y : α) : Option (List α) := if 0 ≤ i ∧ i < xs.length then some (xs.set i.toNat y) else none

section
variable {P : Program} {T : Tab} {lops l l' : List Oper} {Q : Exit → Act → World → Prop} {C : Ctx} {env env' : Env} {gv gv' : GV} {L L' : List Ent} {G G' : Ghost} {o : Oper}

/-- An operation that turns nothing, its value told by hand. -/
theorem EL.val {d : Nat} {s : SV} (hg : goes lops env o.guard = true) (hd : okDst C.n gv o.dst = some d)
    (hrun : ∀ hs a w, Sim C env L G hs a w → GOk C gv L hs a → (execOp a.eval o).run P w = .ok (.value (s.val hs)) w ∧ s.lt L.length)
    (k : EL P lops Q C l ((d, some s) :: env) gv L G) : EL P lops Q C (o :: l) env gv L G := by
  intro hs a w S g
  obtain ⟨h1, h2, h3⟩ := okDst_eq hd
  unfold wpList
  rw [if_pos (goes_wanted S hg)]
  obtain ⟨h4, h5⟩ := hrun hs a w S g
  refine .inl ?_
  unfold Oper.wp
  rw [h4, Oper.upon_value, h1]
  exact k _ _ _ (S.put h2 h5) (g.put h3 _)

theorem ev_v {hs : Nat → Hd} {a : Act} {w : World} (S : Sim C env L G hs a w) (g : GOk C gv L hs a) {x : Operand} {v : Value} (h : ev env gv [] x = some (.v v)) : a.eval x = v :=
  (ev_val S g (fun _ h => absurd h (by simp)) h).1

theorem bind_some {α β : Type} {x : Option α} {F : α → Option β} {r : β} (H : x.bind F = some r) : ∃ y, x = some y ∧ F y = some r := Option.bind_eq_some_iff.1 H

/-- The address of an element of a slice that is only read. -/
theorem EL.index {α : Type} [Rep α] {xs : List α} {y : α} {d t e : Nat} {x ix : Operand} {v : Value} {k : IntKind} {i : Int} {b1 b2 : Nat} {z1 z2 : List Value} {s1 s2 : Nat} {kd : TK}
    (hy : idx xs i = some y) (hs : R G xs v) (hT : TOk P T) (hg : goes lops env o.guard = true) (hd : okDst C.n gv o.dst = some d)
    (ho : o.op = .indexAddr t x ix) (hx : ev env gv [] x = some (.v v)) (hi : ev env gv [] ix = some (.v (.int k i))) (ht : ti T t = some ⟨s1, b1, z1, .slice e⟩) (hte : ti T e = some ⟨s2, b2, z2, kd⟩) (hsz : Rep.sz α = s2)
    (next : ∀ b o' u, R G y u → CellsAt G b o' u → EL P lops Q C l ((d, some (.v (.pointer (some ⟨b, o', none⟩)))) :: env) gv L G) : EL P lops Q C (o :: l) env gv L G := by
  have hy' := hy
  unfold idx at hy'
  split at hy'
  · rename_i h0
    obtain ⟨A, c, rfl, hl, hel⟩ := hs
    have hlt : i.toNat < xs.length := (List.getElem?_eq_some_iff.1 hy').1
    obtain ⟨b, o', rfl, hel2⟩ := hel (by omega)
    obtain ⟨u, hu, hc⟩ := hel2 _ _ hy'
    refine EL.val (s := .v _) hg hd (fun hs a w S g => ⟨?_, trivial⟩) (next b _ u hu hc)
    obtain ⟨ud, hk, hr⟩ := run_und hT ht w
    obtain rfl := und_slice hk
    have hlen : i < xs.length := by omega
    simp only [execOp, ho, ev_v S g hx, ev_v S g hi, Instr.indexAt, asIntOf, Sem.run_bind, Sem.run_pure, Result.andThen_ok, hr, SV.val, SV.cval]
    rw [if_pos ⟨h0, hlen⟩, Sem.run_bind, run_size hT hte]
    simp only [Sem.run_pure, Result.andThen_ok, add_none, hsz]
  · simp at hy'

def shapeOk (k : TK) (size : Nat) (u : Value) : Bool := match k with
  | .other => false
  | .struct _ => match u with
    | .agg cs => Nat.beq (len' cs.toList) size
    | _ => false
  | .arr _ _ => match u with
    | .agg cs => Nat.beq (len' cs.toList) size
    | _ => false
  | _ => match u with
    | .agg _ => false
    | .tuple _ => false
    | _ => true
/-- A load from frozen memory. -/
theorem EL.load {d t b o' size by_ : Nat} {z : List Value} {k : TK} {x : Operand} {u : Value} (hc : CellsAt G b o' u) (hT : TOk P T) (hg : goes lops env o.guard = true) (hd : okDst C.n gv o.dst = some d)
    (ho : o.op = .load t x) (hx : ev env gv [] x = some (.v (.pointer (some ⟨b, o', none⟩)))) (ht : ti T t = some ⟨size, by_, z, k⟩) (hu : shapeOk k size u = true)
    (next : EL P lops Q C l ((d, some (.v u)) :: env) gv L G) : EL P lops Q C (o :: l) env gv L G := by
  refine EL.val (s := .v _) hg hd (fun hs a w S g => ⟨?_, trivial⟩) next
  have key : ∀ j v, u.cells.toList[j]? = some v → w.cell? ⟨b, o' + j, none⟩ = some v := fun j v hv => S.ok _ _ (hc j v hv)
  have agg : k.isAgg = true → ∀ cs, u = .agg cs → cs.size = size → (loadVar t ⟨b, o', none⟩).run P w = .ok u w := by
    rintro hk cs rfl hsz
    have := run_loadVar_agg hT ht hk (w := w) (g := b) (o := o') (r := cs.toList) (by simpa using hsz) key
    simpa using this
  simp only [execOp, ho, ev_v S g hx, Instr.loadAt, Instr.sureAddr, Sem.run_bind, Sem.run_pure, Result.andThen_ok, SV.val, SV.cval]
  have hrun : (loadVar t ⟨b, o', none⟩).run P w = .ok u w := by
    unfold shapeOk at hu
    split at hu
    · simp at hu
    · split at hu
      · rename_i cs
        have := Nat.eq_of_beq_eq_true hu
        rw [len'_eq, Array.length_toList] at this
        exact agg rfl cs rfl this
      · simp at hu
    · split at hu
      · rename_i cs
        have := Nat.eq_of_beq_eq_true hu
        rw [len'_eq, Array.length_toList] at this
        exact agg rfl cs rfl this
      · simp at hu
    · rename_i h1 h2 h3
      have h7 : k.isAgg = false := by
        cases k with
        | struct fs => exact absurd rfl (h2 fs)
        | arr n e => exact absurd rfl (h3 n e)
        | _ => rfl
      refine run_loadVar_one hT ht h7 h1 ?_
      have hcell : u.cells = #[u] := by
        split at hu
        · simp at hu
        · simp at hu
        · rename_i h4 h5
          cases u <;> first | rfl | exact absurd rfl (h4 _)
      have := key 0 u (by rw [hcell]; rfl)
      rwa [Nat.add_zero] at this
  rw [hrun]; rfl

def bnd (env : Env) (gv : GV) (x : Option Operand) (dflt : Int) : Option Int := match x with
  | none => some dflt
  | some y => match ev env gv [] y with
    | some (.v (.int _ n)) => some n
    | _ => none
theorem run_bound {hs : Nat → Hd} {a : Act} {w : World} (S : Sim C env L G hs a w) (g : GOk C gv L hs a) {y : Operand} {n : Int} (h : bnd env gv (some y) 0 = some n) (m : Nat) (c : BoundsCode) (h0 : 0 ≤ n) (h1 : n ≤ m) : (Instr.sliceBound (a.eval y) m c).run P w = .ok n.toNat w := by
  simp only [bnd] at h
  split at h
  · rename_i k n' hy
    obtain rfl := Option.some.inj h
    simp only [ev_v S g hy, Instr.sliceBound, asIntOf, Sem.run_bind, Sem.run_pure, Result.andThen_ok]
    rw [if_pos ⟨h0, h1⟩]; rfl
  · simp at h
theorem bnd_some {y : Operand} {q n : Int} (h : bnd env gv (some y) q = some n) : bnd env gv (some y) 0 = some n := h

/-- A piece of a slice that is only read. -/
theorem EL.slice {α : Type} [Rep α] {xs ys : List α} {d t e : Nat} {x : Operand} {lo hi : Option Operand} {v : Value} {b1 b2 : Nat} {z1 z2 : List Value} {s1 s2 : Nat} {kd : TK} {i j : Int}
    (hy : slc xs i j = some ys) (hs : R G xs v) (hT : TOk P T) (hg : goes lops env o.guard = true) (hd : okDst C.n gv o.dst = some d)
    (ho : o.op = .slice t x lo hi none) (hx : ev env gv [] x = some (.v v)) (hi1 : bnd env gv lo 0 = some i) (hj1 : bnd env gv hi xs.length = some j) (ht : ti T t = some ⟨s1, b1, z1, .slice e⟩) (hte : ti T e = some ⟨s2, b2, z2, kd⟩) (hsz : Rep.sz α = s2)
    (next : ∀ A c, R G ys (.slice A ys.length c) → EL P lops Q C l ((d, some (.v (.slice A ys.length c))) :: env) gv L G) : EL P lops Q C (o :: l) env gv L G := by
  have hy' := hy
  unfold slc at hy'
  split at hy'
  · rename_i hij
    obtain ⟨h0, h1, h2⟩ := hij
    obtain ⟨A, c, rfl, hl, hel⟩ := hs
    have hys := (Option.some.inj hy').symm
    have hlen : ys.length = j.toNat - i.toNat := by rw [hys]; simp; omega
    have hR : R G ys (.slice (if c = i.toNat then A else A.map (·.add (i.toNat * s2))) ys.length (c - i.toNat)) := by
      refine ⟨_, _, rfl, by rw [hlen]; omega, fun hp => ?_⟩
      obtain ⟨b, o', rfl, hel2⟩ := hel (by omega)
      rw [if_neg (by omega)]
      refine ⟨b, o' + i.toNat * s2, by simp [add_none], fun q y hq => ?_⟩
      rw [hys, List.getElem?_drop] at hq
      rw [List.getElem?_take] at hq
      split at hq
      · obtain ⟨u, hu, hc⟩ := hel2 _ _ hq
        refine ⟨u, hu, ?_⟩
        rw [← hsz]
        rw [show o' + i.toNat * Rep.sz α + q * Rep.sz α = o' + (i.toNat + q) * Rep.sz α by rw [Nat.add_mul]; omega]
        exact hc
      · simp at hq
    refine EL.val (s := .v _) hg hd (fun hs a w S g => ⟨?_, trivial⟩) (next _ _ hR)
    obtain ⟨ud, hk, hr⟩ := run_und hT ht w
    obtain rfl := und_slice hk
    have hbs : (Instr.sliceBounds true xs.length c (lo.map a.eval) (hi.map a.eval) none).run P w = .ok (i.toNat, j.toNat, c) w := by
      have hlo : ∀ y c', lo = some y → (Instr.sliceBound (a.eval y) j.toNat c').run P w = .ok i.toNat w := fun y c' hy => by
        subst hy; exact run_bound S g (bnd_some hi1) _ _ h0 (by omega)
      have hhi : ∀ y c', hi = some y → (Instr.sliceBound (a.eval y) c c').run P w = .ok j.toNat w := fun y c' hy => by
        subst hy; exact run_bound S g (bnd_some hj1) _ _ (by omega) (by omega)
      cases lo with
      | none =>
        simp only [bnd, Option.some.injEq] at hi1; subst hi1
        cases hi with
        | none => simp only [bnd, Option.some.injEq] at hj1; subst hj1; simp [Instr.sliceBounds]
        | some y => simp [Instr.sliceBounds, hhi y _ rfl]
      | some z =>
        cases hi with
        | none => simp only [bnd, Option.some.injEq] at hj1; subst hj1; have := hlo z .sliceB rfl; simp at this; simp [Instr.sliceBounds, this]
        | some y => simp [Instr.sliceBounds, hhi y _ rfl, hlo z _ rfl]
    simp only [execOp, ho, ev_v S g hx, Option.map_none, Instr.sliceAt, Sem.run_bind, hr, Result.andThen_ok, Instr.slice, hbs, run_size hT hte, Sem.run_pure, SV.val, SV.cval, hlen]
  · simp at hy'
end
end Go.Proofs.Ytdiclbejalelfaa
