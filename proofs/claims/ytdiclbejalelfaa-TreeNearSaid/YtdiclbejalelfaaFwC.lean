/- The step of one operation, and of many, in a region whose order is the text's; that it is right. No condition. -/
import Derived.Test.YtdiclbejalelfaaFwB
set_option linter.unusedVariables false
set_option linter.unusedSimpArgs false
namespace Go.Proofs.Ytdiclbejalelfaa
open Go.RowKit

def dropN {α : Type} : Nat → List α → Option (List α)
  | 0, l => some l
  | n + 1, _ :: l => dropN n l
  | _ + 1, [] => none
def takeN {α : Type} : Nat → List α → Option (List α)
  | 0, _ => some []
  | n + 1, x :: l => match takeN n l with
    | some r => some (x :: r)
    | none => none
  | _ + 1, [] => none
/-- Some cells, from a place on, are others. -/
def setN {α : Type} : Nat → List α → List α → Option (List α)
  | 0, [], l => some l
  | 0, v :: vs, _ :: l => match setN 0 vs l with
    | some r => some (v :: r)
    | none => none
  | 0, _ :: _, [] => none
  | n + 1, vs, x :: l => match setN n vs l with
    | some r => some (x :: r)
    | none => none
  | _ + 1, _, [] => none
theorem dropN_eq {α : Type} {n : Nat} {l r : List α} (h : dropN n l = some r) : r = l.drop n := by
  induction n generalizing l with
  | zero => simp [dropN] at h; simp [h]
  | succ n ih => cases l with
    | nil => simp [dropN] at h
    | cons x l => simp only [dropN] at h; simpa using ih h
theorem takeN_eq {α : Type} {n : Nat} {l r : List α} (h : takeN n l = some r) : r = l.take n ∧ r.length = n := by
  induction n generalizing l r with
  | zero => simp [takeN] at h; subst h; simp
  | succ n ih => cases l with
    | nil => simp [takeN] at h
    | cons x l =>
      simp only [takeN] at h
      split at h
      · rename_i r' hr
        obtain rfl := Option.some.inj h
        obtain ⟨h1, h2⟩ := ih hr
        exact ⟨by rw [List.take_succ_cons, h1], by simp [h2]⟩
      · simp at h
theorem setN_get {α : Type} {n : Nat} {vs l r : List α} (h : setN n vs l = some r) : r.length = l.length ∧ n + vs.length ≤ l.length ∧ ∀ j, r[j]? = if n ≤ j ∧ j < n + vs.length then vs[j - n]? else l[j]? := by
  induction l generalizing n vs r with
  | nil =>
    cases n with
    | zero => cases vs with
      | nil => simp [setN] at h; subst h; simp
      | cons v vs => simp [setN] at h
    | succ n => simp [setN] at h
  | cons x l ih =>
    cases n with
    | zero => cases vs with
      | nil => simp [setN] at h; subst h; simp
      | cons v vs =>
        simp only [setN] at h
        split at h
        · rename_i r' hr
          obtain rfl := Option.some.inj h
          obtain ⟨h1, h2, h3⟩ := ih hr
          refine ⟨by simp [h1], by simp; omega, fun j => ?_⟩
          cases j with
          | zero => simp
          | succ j =>
            have := h3 j
            simp only [List.getElem?_cons_succ, this, List.length_cons]
            by_cases hj : j < vs.length
            · rw [if_pos (by omega), if_pos (by omega)]; simp
            · rw [if_neg (by omega), if_neg (by omega)]
        · simp at h
    | succ n =>
      simp only [setN] at h
      split at h
      · rename_i r' hr
        obtain rfl := Option.some.inj h
        obtain ⟨h1, h2, h3⟩ := ih hr
        refine ⟨by simp [h1], by simp; omega, fun j => ?_⟩
        cases j with
        | zero => simp
        | succ j =>
          have := h3 j
          simp only [List.getElem?_cons_succ, this]
          by_cases hj : n ≤ j ∧ j < n + vs.length
          · rw [if_pos (by omega), if_pos (by omega)]; rw [show j + 1 - (n + 1) = j - n by omega]
          · rw [if_neg (by omega), if_neg (by omega)]
      · simp at h

def nth {α : Type} : List α → Nat → Option α
  | [], _ => none
  | x :: _, 0 => some x
  | _ :: l, n + 1 => nth l n
theorem nth_eq {α : Type} (l : List α) (n : Nat) : nth l n = l[n]? := by
  induction l generalizing n with
  | nil => simp [nth]
  | cons x l ih => cases n <;> simp [nth, ih]
def len' {α : Type} : List α → Nat
  | [] => 0
  | _ :: l => len' l + 1
theorem len'_eq {α : Type} (l : List α) : len' l = l.length := by
  induction l with
  | nil => rfl
  | cons x l ih => simp [len', ih]
def setL {α : Type} : List α → Nat → α → List α
  | [], _, _ => []
  | _ :: l, 0, y => y :: l
  | x :: l, n + 1, y => x :: setL l n y
theorem setL_eq {α : Type} (l : List α) (n : Nat) (y : α) : setL l n y = l.set n y := by
  induction l generalizing n with
  | nil => simp [setL]
  | cons x l ih => cases n <;> simp [setL, ih]
def app {α : Type} : List α → α → List α
  | [], y => [y]
  | x :: l, y => x :: app l y
theorem app_eq {α : Type} (l : List α) (y : α) : app l y = l ++ [y] := by
  induction l with
  | nil => rfl
  | cons x l ih => simp [app, ih]

/-- A list, its spine laid open. -/
def forceL {α : Type} : List α → Option (List α)
  | [] => some []
  | x :: l => match forceL l with
    | some r => some (x :: r)
    | none => none
theorem forceL_eq {α : Type} {l r : List α} (h : forceL l = some r) : r = l := by
  induction l generalizing r with
  | nil => simp [forceL] at h; exact h
  | cons x l ih =>
    simp only [forceL] at h
    split at h
    · rename_i r' hr
      rw [← Option.some.inj h, ih hr]
    · simp at h
def vs : List Value → List SV
  | [] => []
  | x :: l => .v x :: vs l
theorem vs_val (hs : Nat → Hd) (l : List Value) : cvals hs (vs l) = l := by
  induction l with
  | nil => rfl
  | cons x l ih => show SV.cval hs (.v x) :: cvals hs (vs l) = _; rw [ih]; rfl
theorem vs_clt (l : List Value) (m : Nat) : ∀ c ∈ vs l, c.clt m := by
  induction l with
  | nil => simp [vs]
  | cons x l ih =>
    intro c hc
    rcases List.mem_cons.1 hc with rfl | hc
    · trivial
    · exact ih c hc
def toPlain : List SV → Option (List Value)
  | [] => some []
  | s :: l => match s.plain, toPlain l with
    | some x, some r => some (x :: r)
    | _, _ => none
theorem toPlain_val {l : List SV} {r : List Value} (h : toPlain l = some r) (hs : Nat → Hd) : cvals hs l = r := by
  induction l generalizing r with
  | nil => simp [toPlain] at h; simp [cvals, h]
  | cons s l ih =>
    simp only [toPlain] at h
    split at h
    · rename_i x r' hx hr
      rw [← Option.some.inj h]
      show SV.cval hs s :: cvals hs l = _
      rw [ih hr]
      cases s <;> simp [SV.plain] at hx <;> simp [SV.cval, hx]
    · simp at h
/-- A value's cells. -/
def cellsS (L : List Ent) : SV → Option (List SV)
  | .agg cs => some cs
  | .v (.agg cs) => forceL (vs cs.toList)
  | .fn _ _ => none
  | .row r => match nth L r with
    | some (.row _ _ _ _) => some [.row r]
    | _ => none
  | s => some [s]
/-- The headers of rows are slices. -/
def RowsOk (L : List Ent) (hs : Nat → Hd) : Prop := ∀ (r : Nat) e sz n es, L[r]? = some (.row e sz n es) → ∃ A c, (hs r).val = .slice A n c
theorem rowsOk {L : List Ent} {hs : Nat → Hd} {w : World} (hL : ∀ (r : Nat) (e : Ent), L[r]? = some e → e.holds w hs (hs r)) : RowsOk L hs := by
  intro r e sz n es hr
  obtain ⟨h1, h2, h3, ⟨h4, h5⟩, h6⟩ := hL r _ hr
  rcases h5 with ⟨h7, h8⟩ | ⟨g, cap, cur, h7, _⟩
  · exact ⟨none, 0, by rw [h7, h8]⟩
  · exact ⟨_, _, h7⟩
theorem cellsS_val {L : List Ent} {s : SV} {l : List SV} (h : cellsS L s = some l) {hs : Nat → Hd} (hr : RowsOk L hs) : (s.val hs).cells.toList = cvals hs l := by
  unfold cellsS at h
  split at h
  · obtain rfl := Option.some.inj h; rfl
  · rw [forceL_eq h, vs_val]; rfl
  · simp at h
  · split at h
    · rename_i r _ e sz n es hn
      rw [nth_eq] at hn
      obtain rfl := Option.some.inj h
      obtain ⟨A, c, hv⟩ := hr _ _ _ _ _ hn
      simp [SV.val, SV.cval, cvals, hv, Value.cells]
    · simp at h
  · rename_i h1 h2 h3 h4
    obtain rfl := Option.some.inj h
    cases s with
    | agg cs => exact absurd rfl (h1 cs)
    | fn f cs => exact absurd rfl (h3 f cs)
    | v x => cases x <;> first | rfl | exact absurd rfl (h2 _)
    | p r o => rfl
    | tt => rfl
    | ff => rfl
    | mp r => rfl
    | ip t r o => rfl
    | row r => exact absurd rfl (h4 r)
theorem cellsS_lt {L : List Ent} {s : SV} {l : List SV} (h : cellsS L s = some l) {m : Nat} (hl : s.lt m) : ∀ c ∈ l, c.clt m := by
  unfold cellsS at h
  split at h
  · obtain rfl := Option.some.inj h; exact hl
  · rw [forceL_eq h]; exact vs_clt _ _
  · simp at h
  · split at h
    · obtain rfl := Option.some.inj h
      intro c hc
      obtain rfl := List.mem_singleton.1 hc
      exact hl
    · simp at h
  · rename_i h1 h2 h3 h4
    obtain rfl := Option.some.inj h
    intro c hc
    obtain rfl := List.mem_singleton.1 hc
    cases c with
    | agg cs => exact absurd rfl (h1 cs)
    | fn f cs => exact absurd rfl (h3 f cs)
    | _ => exact hl
/-- Is each cell's value one of one cell? -/
def oneS (L : List Ent) : SV → Bool
  | .v x => x.oneCell'
  | .row r => match nth L r with
    | some (.row _ _ _ _) => true
    | _ => false
  | .p _ _ | .mp _ | .ip _ _ _ | .tt | .ff => true
  | _ => false
def oneAll (L : List Ent) : List SV → Bool
  | [] => true
  | s :: l => match oneS L s with
    | true => oneAll L l
    | false => false
theorem oneS_val {L : List Ent} {s : SV} (h : oneS L s = true) {hs : Nat → Hd} (hr : RowsOk L hs) : (s.cval hs).oneCell' = true := by
  unfold oneS at h
  split at h
  · exact h
  · split at h
    · rename_i hn
      rw [nth_eq] at hn
      obtain ⟨A, c, hv⟩ := hr _ _ _ _ _ hn
      simp [SV.cval, hv, Value.oneCell']
    · simp at h
  · rfl
  · rfl
  · rfl
  · rfl
  · rfl
  · simp at h
theorem oneAll_val {L : List Ent} {l : List SV} (h : oneAll L l = true) {hs : Nat → Hd} (hr : RowsOk L hs) : ∀ v ∈ cvals hs l, v.oneCell' = true := by
  induction l with
  | nil => simp [cvals]
  | cons s l ih =>
    simp only [oneAll] at h
    split at h
    · rename_i hx
      intro v hv
      rcases List.mem_cons.1 hv with rfl | hv
      · exact oneS_val hx hr
      · exact ih h v hv
    · simp at h
theorem cvals_len (hs : Nat → Hd) (l : List SV) : (cvals hs l).length = l.length := by simp [cvals]
theorem setN_cvals {hs : Nat → Hd} {n : Nat} {a l r : List SV} (h : setN n a l = some r) : setN n (cvals hs a) (cvals hs l) = some (cvals hs r) := by
  induction l generalizing n a r with
  | nil => cases n <;> cases a <;> simp [setN] at h; subst h; rfl
  | cons x l ih =>
    cases n with
    | zero => cases a with
      | nil => simp [setN] at h; subst h; rfl
      | cons v a =>
        simp only [setN] at h
        split at h
        · rename_i r' hr
          obtain rfl := Option.some.inj h
          have h9 := ih hr
          simp only [cvals, List.map_cons, setN] at h9 ⊢
          rw [h9]
        · simp at h
    | succ n =>
      simp only [setN] at h
      split at h
      · rename_i r' hr
        obtain rfl := Option.some.inj h
        have h9 := ih hr
        simp only [cvals, List.map_cons, setN] at h9 ⊢
        rw [h9]
      · simp at h
theorem setN_clt {m : Nat} {n : Nat} {a l r : List SV} (h : setN n a l = some r) (ha : ∀ c ∈ a, SV.clt m c) (hl : ∀ c ∈ l, SV.clt m c) : ∀ c ∈ r, SV.clt m c := by
  obtain ⟨h1, h2, h3⟩ := setN_get h
  intro c hc
  obtain ⟨j, hj, rfl⟩ := List.getElem_of_mem hc
  have := h3 j
  rw [List.getElem?_eq_getElem hj] at this
  split at this
  · exact ha _ (List.mem_of_getElem? this.symm)
  · exact hl _ (List.mem_of_getElem? this.symm)

/-- The parts of a literal, laid over the zero value. -/
def fillL (L : List Ent) (fs : List (Nat × Nat × TypeId)) : List SV → List (Nat × SV) → Option (List SV)
  | cells, [] => some cells
  | cells, (i, v) :: rest => match nth fs i, cellsS L v with
    | some (off, size, _), some cv => match Nat.beq (len' cv) size, setN off cv cells with
      | true, some r => fillL L fs r rest
      | _, _ => none
    | _, _ => none

theorem fold_set (off : Nat) (vs : List Value) : ∀ (k : Nat) (cs : Array Value) , (vs.toArray.zipIdx k).foldl (fun cs (c, j) => cs.setIfInBounds (off + j) c) cs = ((vs.zipIdx k).foldl (fun (cs : List Value) (c : Value × Nat) => cs.set (off + c.2) c.1) cs.toList).toArray := by
  intro k cs
  rw [← Array.foldl_toList, Array.toList_zipIdx]
  show List.foldl _ cs (vs.zipIdx k) = _
  induction vs generalizing k cs with
  | nil => simp
  | cons v vs ih => simp only [List.zipIdx_cons, List.foldl_cons]; rw [ih]; simp

theorem foldl_get (off : Nat) (vs : List Value) : ∀ (k : Nat) (l : List Value), ((vs.zipIdx k).foldl (fun (cs : List Value) (c : Value × Nat) => cs.set (off + c.2) c.1) l).length = l.length ∧
    ∀ j, ((vs.zipIdx k).foldl (fun (cs : List Value) (c : Value × Nat) => cs.set (off + c.2) c.1) l)[j]? = if off + k ≤ j ∧ j < off + k + vs.length ∧ j < l.length then vs[j - (off + k)]? else l[j]? := by
  induction vs with
  | nil => intro k l; simp; intro j; omega
  | cons v vs ih =>
    intro k l
    simp only [List.zipIdx_cons, List.foldl_cons]
    obtain ⟨h1, h2⟩ := ih (k + 1) (l.set (off + k) v)
    refine ⟨by rw [h1]; simp, fun j => ?_⟩
    rw [h2 j]
    simp only [List.length_set, List.length_cons]
    by_cases hj : off + (k + 1) ≤ j ∧ j < off + (k + 1) + vs.length ∧ j < l.length
    · rw [if_pos hj, if_pos (by omega)]
      rw [show j - (off + k) = (j - (off + (k + 1))) + 1 by omega]; simp
    · rw [if_neg hj]
      by_cases hjk : j = off + k ∧ j < l.length
      · obtain ⟨rfl, hl⟩ := hjk
        rw [if_pos (by omega)]; simp [hl]
      · rw [if_neg (by omega), List.getElem?_set]
        by_cases hk : off + k = j
        · subst hk; rw [if_pos rfl, if_neg (by omega)]; simp; omega
        · rw [if_neg hk]

theorem fill_of {L : List Ent} {hs : Nat → Hd} (hro : RowsOk L hs) {fs : List (Nat × Nat × TypeId)} {parts : List (Nat × SV)} {cells r : List SV} (h : fillL L fs cells parts = some r) (place : Nat → Option (Nat × Nat)) (hp : ∀ i f, fs[i]? = some f → place i = some (f.1, f.2.1)) :
    Instr.fill place (cvals hs cells).toArray (parts.map fun p => (p.1, p.2.val hs)) = some (cvals hs r).toArray := by
  induction parts generalizing cells with
  | nil => simp [fillL] at h; simp [Instr.fill, h]
  | cons p rest ih =>
    obtain ⟨i, v⟩ := p
    simp only [fillL] at h
    split at h
    · rename_i off size ty cv hi hcv
      rw [nth_eq] at hi
      have hval := cellsS_val hcv hro
      have hlen : (v.val hs).cells.size = cv.length := by rw [← Array.length_toList, hval, cvals_len]
      split at h
      · rename_i r' hl hr
        have hl' := Nat.eq_of_beq_eq_true hl
        rw [len'_eq] at hl'
        have hr' := setN_cvals (hs := hs) hr
        obtain ⟨h1, h2, h3⟩ := setN_get hr'
        rw [cvals_len, cvals_len] at h2
        have hcells : (v.val hs).cells.zipIdx.foldl (fun cs (c, j) => cs.setIfInBounds (off + j) c) (cvals hs cells).toArray = (cvals hs r').toArray := by
          have := fold_set off (v.val hs).cells.toList 0 (cvals hs cells).toArray
          rw [Array.toArray_toList] at this
          rw [this]
          congr 1
          obtain ⟨h4, h5⟩ := foldl_get off (v.val hs).cells.toList 0 (cvals hs cells)
          refine List.ext_getElem? fun j => ?_
          rw [h5 j, h3 j, hval]
          simp only [Nat.add_zero, cvals_len]
          by_cases hj : off ≤ j ∧ j < off + cv.length
          · rw [if_pos ⟨hj.1, hj.2, by omega⟩, if_pos hj]
          · rw [if_neg (by omega), if_neg hj]
        simp only [List.map_cons, Instr.fill, hp i _ hi]
        rw [if_neg (by simp [hlen, cvals_len, hl']; omega), hcells]
        exact ih h
      · simp at h
    · simp at h
theorem fillL_clt {L : List Ent} {m : Nat} {fs : List (Nat × Nat × TypeId)} {parts : List (Nat × SV)} {cells r : List SV} (h : fillL L fs cells parts = some r) (hp : ∀ p ∈ parts, SV.lt m p.2) (hc : ∀ c ∈ cells, SV.clt m c) : ∀ c ∈ r, SV.clt m c := by
  induction parts generalizing cells with
  | nil => simp [fillL] at h; subst h; exact hc
  | cons p rest ih =>
    obtain ⟨i, v⟩ := p
    simp only [fillL] at h
    split at h
    · rename_i off size ty cv hi hcv
      split at h
      · rename_i r' hl hr
        exact ih h (fun q hq => hp q (List.mem_cons_of_mem _ hq)) (setN_clt hr (cellsS_lt hcv (hp _ List.mem_cons_self)) hc)
      · simp at h
    · simp at h

def parts (f : Operand → Option SV) : List (Nat × Operand) → Option (List (Nat × SV))
  | [] => some []
  | (i, x) :: l => match f x, parts f l with
    | some s, some r => some ((i, s) :: r)
    | _, _ => none
def plainAll (f : Operand → Option SV) : List Operand → Option (List Value)
  | [] => some []
  | x :: l => match f x with
    | none => none
    | some s => match s.plain with
      | none => none
      | some v => match plainAll f l with
        | none => none
        | some r => some (v :: r)
/-- Operands of one cell each. -/
def cellAll (f : Operand → Option SV) : List Operand → Option (List SV)
  | [] => some []
  | x :: l => match f x, cellAll f l with
    | some (.agg _), _ => none
    | some (.fn _ _), _ => none
    | some s, some r => some (s :: r)
    | _, _ => none

def plainOf (f : Operand → Option SV) (x : Operand) : Option Value := match f x with
  | none => none
  | some s => s.plain
/-- A part of a variable, or of a struct's value. -/
def partS (k : TK) (r : List SV) : Option SV := match k with
  | .other => none
  | .struct _ => match toPlain r with
    | some l => some (.v (.agg l.toArray))
    | none => some (.agg r)
  | .arr _ _ => match toPlain r with
    | some l => some (.v (.agg l.toArray))
    | none => some (.agg r)
  | _ => match r with
    | [.agg _] => none
    | [.fn _ _] => none
    | [s] => some s
    | _ => none

/-- The places of an array's elements. -/
def arrFs (size : Nat) (e : TypeId) : Nat → Nat → List (Nat × Nat × TypeId)
  | _, 0 => []
  | off, n + 1 => (off, size, e) :: arrFs size e (off + size) n
theorem arrFs_get {size : Nat} {e : TypeId} : ∀ {n off i : Nat} {f : Nat × Nat × TypeId}, (arrFs size e off n)[i]? = some f → f = (off + i * size, size, e)
  | 0, off, i, f, h => by simp [arrFs] at h
  | n + 1, off, 0, f, h => by simp [arrFs] at h; simp [← h]
  | n + 1, off, i + 1, f, h => by
    simp only [arrFs, List.getElem?_cons_succ] at h
    rw [arrFs_get h, Nat.add_assoc, Nat.add_mul, Nat.one_mul, Nat.add_comm size]
def partsOf (T : Tab) : TK → Option (List (Nat × Nat × TypeId))
  | .struct fs => some fs
  | .arr n e => match ti T e with
    | some ⟨size, _, _, _⟩ => some (arrFs size e 0 n)
    | none => none
  | _ => none
def valOp (T : Tab) (f : Operand → Option SV) (L : List Ent) : Op → Option SV
  | .move x => f x
  | .assign x => f x
  | .binOp op t x y _ => match plainOf f x, plainOf f y with
    | some a, some b => match binV T op t a b with
      | some v => some (.v v)
      | none => none
    | _, _ => none
  | .unOp .not _ x => match f x with
    | some .tt => some .ff
    | some .ff => some .tt
    | some (.v (.bool b)) => some (.v (.bool !b))
    | _ => none
  | .unOp .neg _ x => match f x with
    | some (.v (.int k n)) => some (.v (.int k (k.wrap (0 - n))))
    | _ => none
  | .extract x i => match f x with
    | some (.v (.tuple vs)) => match nth vs.toList i with
      | some v => some (.v v)
      | none => none
    | _ => none
  | .fieldAddr s x j => match ti T s with
    | some ⟨_, _, _, .struct fs⟩ => match nth fs j with
      | some (off, size + 1, _) => match f x with
        | some (.p r o) => some (.p r (o + off))
        | some (.v (.pointer (some ⟨b, o, none⟩))) => some (.v (.pointer (some ⟨b, o + off, none⟩)))
        | _ => none
      | _ => none
    | _ => none
  | .load t x => match f x with
    | some (.p r o) => match nth L r with
      | some (.box _ cs) => match ti T t with
        | some ⟨size, _, _, k⟩ => match dropN o cs with
          | none => none
          | some l => match takeN size l with
            | none => none
            | some q => partS k q
        | none => none
      | _ => none
    | _ => none
  | .field s x j => match ti T s with
    | some ⟨_, _, _, .struct fs⟩ => match nth fs j, f x with
      | some (off, _, ft), some (.v (.agg cs)) => match ti T ft with
        | some ⟨size, _, _, k⟩ => match dropN off cs.toList with
          | none => none
          | some l => match takeN size l with
            | none => none
            | some q => match k, q with
              | .other, _ => none
              | .struct _, q => some (.v (.agg q.toArray))
              | .arr _ _, q => some (.v (.agg q.toArray))
              | _, [v] => some (.v v)
              | _, _ => none
        | none => none
      | _, _ => none
    | _ => none
  | .build t ps => match ti T t with
    | some ⟨_, _, z, k⟩ => match partsOf T k with
      | none => none
      | some fs => match parts f ps.toList with
        | none => none
        | some ps => match forceL (vs z) with
          | none => none
          | some z => match fillL L fs z ps with
            | none => none
            | some r => match toPlain r with
              | some l => some (.v (.agg l.toArray))
              | none => some (.agg r)
    | none => none
  | .nilCheck x => match f x with
    | some (.p r o) => some (.p r o)
    | some (.v (.pointer (some a))) => some (.v (.pointer (some a)))
    | _ => none
  | .indexAddr t x ix => match ti T t with
    | some ⟨_, _, _, .arr n e⟩ => match ti T e, f ix with
      | some ⟨size, _, _, _⟩, some (.v (.int _ (.ofNat i))) => match Nat.blt i n with
        | false => none
        | true => match f x with
          | some (.p r o) => some (.p r (o + i * size))
          | some (.v (.pointer (some ⟨b, o, none⟩))) => some (.v (.pointer (some ⟨b, o + i * size, none⟩)))
          | _ => none
      | _, _ => none
    | _ => none
  | .convert src dst x => match ti T src, ti T dst with
    | some ⟨_, _, _, .int _⟩, some ⟨_, _, _, .int k⟩ => match f x with
      | some (.v (.int _ n)) => some (.v (.int k (k.wrap n)))
      | _ => none
    | _, _ => none
  | .makeFunc fn first captured => match first.toList, cellAll f captured.toList with
    | [], some b => match toPlain b with
      | some l => some (.v (.func fn #[] l.toArray))
      | none => some (.fn fn b)
    | _, _ => none
  | .makeInterface t x => match ti T t with
    | some ⟨_, _, _, .iface⟩ => none
    | some ⟨_, _, _, .other⟩ => none
    | some _ => match f x with
      | some (.p r o) => some (.ip t r o)
      | some s => match s.plain with
        | some v => some (.v (.iface t v))
        | none => none
      | none => none
    | none => none
  | .call ⟨.builtin .len, args, tys⟩ => match args.toList, tys.toList with
    | [x], [t] => match ti T t with
      | some ⟨_, _, _, .slice _⟩ => match f x with
        | some (.v (.slice _ n _)) => some (.v (.int .i64 (n : Int)))
        | some (.row r) => match nth L r with
          | some (.row _ _ n _) => some (.v (.int .i64 (n : Int)))
          | _ => none
        | _ => none
      | some ⟨_, _, _, .str⟩ => match f x with
        | some (.v (.string s)) => some (.v (.int .i64 (s.size : Int)))
        | _ => none
      | _ => none
    | _, _ => none
  | .call ⟨.builtin .min, args, _⟩ => match args.toList with
    | [x, y] => match f x, f y with
      | some (.v (.int k a)), some (.v (.int _ b)) => some (.v (.int k (if b < a then b else a)))
      | _, _ => none
    | _ => none
  | .call ⟨.builtin .max, args, _⟩ => match args.toList with
    | [x, y] => match f x, f y with
      | some (.v (.int k a)), some (.v (.int _ b)) => some (.v (.int k (if a < b then b else a)))
      | _, _ => none
    | _ => none
  | _ => none
end Go.Proofs.Ytdiclbejalelfaa
