/- The symbolic step, many of them at once; the predicates of a walk (EL: in a region; E: at a piece of code; EX: behind it), and their rules. No condition. -/
import Derived.Test.YtdiclbejalelfaaFwD
set_option linter.unusedVariables false
set_option linter.unusedSimpArgs false
namespace Go.Proofs.Ytdiclbejalelfaa
open Go.RowKit

/-- The elements of a row that is written out: plain, each of so many cells, in order. -/
def rowOf (size : Nat) : Nat → List (Nat × SV) → Option (List Value)
  | _, [] => some []
  | i, (j, s) :: l => match Nat.beq i j, s.plain with
    | true, some v => match Nat.beq (len' (v.cells.toList)) size, allOne v.cells.toList, rowOf size (i + 1) l with
      | true, true, some r => some (v :: r)
      | _, _, _ => none
    | _, _ => none
where allOne : List Value → Bool
  | [] => true
  | v :: l => match v.oneCell' with
    | true => allOne l
    | false => false

def memOp (T : Tab) (f : Operand → Option SV) (L : List Ent) : Op → Option (Option SV × List Ent)
  | .box t x => match f x with
    | some s => match cellsS L s with
      | some cs => some (some (.p (len' L) 0), app L (.box t cs))
      | none => none
    | none => none
  | .alloc t => match ti T t with
    | some ⟨_, _, z, _⟩ => match forceL (vs z) with
      | some cs => some (some (.p (len' L) 0), app L (.box t cs))
      | none => none
    | none => none
  | .store t x y => match f x with
    | some (.p r o) => match nth L r with
      | some (.box bt cs) => match f y, ti T t with
        | some s, some ⟨size, _, _, _⟩ => match cellsS L s with
          | some cv => match Nat.beq (len' cv) size, oneAll L cv, setN o cv cs with
            | true, true, some cs' => some (none, setL L r (.box bt cs'))
            | _, _, _ => none
          | none => none
        | _, _ => none
      | _ => none
    | _ => none
  | .buildSlice t n ps => match ti T t with
    | some ⟨_, _, _, .slice e⟩ => match ti T e, parts f ps.toList with
      | some ⟨size, _, _, _⟩, some ps => match rowOf size 0 ps, Nat.beq (len' ps) n, Nat.ble (n * size) 16777216, Nat.ble 1 size with
        | some es, true, true, true => some (some (.row (len' L)), app L (.row e size n es))
        | _, _, _, _ => none
      | _, _ => none
    | _ => none
  | _ => none

theorem storeCells_only {P : Program} (g : Nat) (t : TypeId) (vs : List Value) : ∀ (o i : Nat) (cs cs' : List Value) (w : World), w.heap[g]? = some (.cells cs.toArray t (0, 0)) → (∀ v ∈ vs, v.oneCell' = true) → setN (o + i) vs cs = some cs' →
    ∃ w', (storeCells ⟨g, o, none⟩ vs i).run P w = .ok () w' ∧ w'.heap[g]? = some (.cells cs'.toArray t (0, 0)) ∧ Only g w w' ∧ w'.heap.size = w.heap.size := by
  induction vs with
  | nil =>
    intro o i cs cs' w hw _ hs
    obtain ⟨h1, h2, h3⟩ := setN_get hs
    have : cs' = cs := List.ext_getElem? fun j => by rw [h3 j, if_neg (by simp)]
    subst this
    exact ⟨w, rfl, hw, Only.refl _ _, rfl⟩
  | cons v vs ih =>
    intro o i cs cs' w hw hone hs
    obtain ⟨h1, h2, h3⟩ := setN_get hs
    simp only [List.length_cons] at h2
    have hcell : w.cell? ⟨g, o + i, none⟩ = cs[o + i]? := cell_box hw _
    have hlt : o + i < cs.length := by omega
    rw [List.getElem?_eq_getElem hlt] at hcell
    have hfr : w.frozen? ⟨g, o + i, none⟩ = false := by simp [World.frozen?, hw]
    have hw1 : (w.setCell ⟨g, o + i, none⟩ v).heap[g]? = some (.cells (cs.set (o + i) v).toArray t (0, 0)) := by
      simp [World.setCell, Array.getElem?_modify, hw]
    have hs1 : setN (o + (i + 1)) vs (cs.set (o + i) v) = some cs' := by
      have : ∀ (n : Nat) (vs l r : List Value), setN n (v :: vs) l = some r → setN (n + 1) vs (l.set n v) = some r := by
        intro n
        induction n with
        | zero =>
          intro vs l r h
          cases l with
          | nil => simp [setN] at h
          | cons x l =>
            simp only [setN] at h ⊢
            exact h
        | succ n ihn =>
          intro vs l r h
          cases l with
          | nil => simp [setN] at h
          | cons x l =>
            simp only [setN] at h
            split at h
            · rename_i r' hr
              obtain rfl := Option.some.inj h
              rw [List.set_cons_succ]
              simp only [setN]
              rw [ihn _ _ _ hr]
            · simp at h
      exact this _ _ _ _ hs
    obtain ⟨w', hr, hg, ho, hz⟩ := ih o (i + 1) _ _ _ hw1 (fun u hu => hone u (List.mem_cons_of_mem _ hu)) hs1
    refine ⟨w', ?_, hg, (Only.setCell w ⟨g, o + i, none⟩ v).trans ho, hz.trans (World.size_setCell ..)⟩
    simp only [storeCells, Sem.run_bind]
    rw [add_none, run_store P w ⟨g, o + i, none⟩ v .plain (hone v List.mem_cons_self), hcell]
    simp only [hfr, Bool.false_eq_true, if_false, Result.andThen_ok]
    exact hr

theorem GOk.move {C : Ctx} {gv : GV} {L L' : List Ent} {hs hs' : Nat → Hd} {a : Act} (h : GOk C gv L hs a) (hl : L.length ≤ L'.length) (he : ∀ r, r < L.length → hs' r = hs r) : GOk C gv L' hs' a :=
  ⟨fun t s gs ht => by
    obtain ⟨h1, h2⟩ := h.on t s gs ht
    exact ⟨fun ho => ⟨by rw [SV.val_lt (h1 ho).2 he]; exact (h1 ho).1, SV.lt_mono (h1 ho).2 hl⟩, h2⟩, h.al⟩
theorem GOk.nil (C : Ctx) (L : List Ent) (hs : Nat → Hd) (a : Act) : GOk C gnil L hs a := ⟨fun t s gs h => by simp [gfind, gnil] at h, fun x hx => by simp [gnil] at hx⟩

def gslots : Gs → Nat → Bool
  | [], _ => true
  | g :: l, d => match Nat.beq g.1 d with
    | true => false
    | false => gslots l d
def gfreeL : GL → Nat → Bool
  | [], _ => true
  | (t, _, gs) :: l, d => match Nat.beq t d, gslots gs d with
    | false, true => gfreeL l d
    | _, _ => false
def alfree : List (Nat × Nat) → Nat → Bool
  | [], _ => true
  | (x, y) :: l, d => match Nat.beq x d, Nat.beq y d with
    | false, false => alfree l d
    | _, _ => false
def gfree (gv : GV) (d : Nat) : Bool := match gfreeL gv.g d with
  | true => alfree gv.al d
  | false => false
theorem gfree_parts {gv : GV} {d : Nat} (h : gfree gv d = true) : gfreeL gv.g d = true ∧ alfree gv.al d = true := by
  unfold gfree at h
  split at h
  · rename_i h1; exact ⟨h1, h⟩
  · simp at h
theorem alfree_ne {l : List (Nat × Nat)} {d : Nat} (h : alfree l d = true) : ∀ x ∈ l, x.1 ≠ d ∧ x.2 ≠ d := by
  induction l with
  | nil => simp
  | cons x l ih =>
    simp only [alfree] at h
    split at h
    · rename_i h1 h2
      intro y hy
      rcases List.mem_cons.1 hy with rfl | hy
      · exact ⟨fun e => by rw [e] at h1; simp at h1, fun e => by rw [e] at h2; simp at h2⟩
      · exact ih h y hy
    · simp at h
theorem gslots_ne {gs : Gs} {d : Nat} (h : gslots gs d = true) : ∀ g ∈ gs, g.1 ≠ d := by
  induction gs with
  | nil => simp
  | cons g l ih =>
    simp only [gslots] at h
    split at h
    · simp at h
    · rename_i hb
      intro x hx
      rcases List.mem_cons.1 hx with rfl | hx
      · intro e; rw [e] at hb; simp at hb
      · exact ih h x hx
theorem put_ne {a : Act} {d t : Nat} {v : Value} (h : t ≠ d) : (a.put (some d) v).tmps[t]? = a.tmps[t]? := by
  simp only [Act.put, Array.getElem?_setIfInBounds, if_neg (Ne.symm h)]
theorem on_put {gs : Gs} {d : Nat} (h : gslots gs d = true) (a : Act) (v : Value) : Gs.on gs (a.put (some d) v) ↔ Gs.on gs a := by
  constructor <;> intro ho g hg
  · have := ho g hg; rwa [put_ne (gslots_ne h g hg)] at this
  · rw [put_ne (gslots_ne h g hg)]; exact ho g hg
theorem gfree_find {gv : GL} {d : Nat} (h : gfreeL gv d = true) {t : Nat} {s : SV} {gs : Gs} (hf : gfind gv t = some (s, gs)) : t ≠ d ∧ gslots gs d = true := by
  induction gv with
  | nil => simp [gfind] at hf
  | cons e l ih =>
    obtain ⟨t', s', gs'⟩ := e
    simp only [gfreeL] at h
    split at h
    · rename_i h1 h2
      simp only [gfind] at hf
      split at hf
      · rename_i hb
        obtain rfl := Nat.eq_of_beq_eq_true hb
        simp only [Option.some.injEq, Prod.mk.injEq] at hf
        obtain ⟨_, rfl⟩ := hf
        exact ⟨fun e => by rw [e] at h1; simp at h1, h2⟩
      · exact ih h hf
    · simp at h
theorem GOk.put {C : Ctx} {gv : GV} {L : List Ent} {hs : Nat → Hd} {a : Act} (h : GOk C gv L hs a) {d : Nat} (hd : gfree gv d = true) (v : Value) : GOk C gv L hs (a.put (some d) v) :=
  ⟨fun t s gs ht => by
    obtain ⟨h4, h5⟩ := gfree_find (gfree_parts hd).1 ht
    rw [put_ne h4, on_put h5]
    exact h.on t s gs ht, fun x hx => by
    obtain ⟨h4, h5⟩ := alfree_ne (gfree_parts hd).2 x hx
    rw [put_ne h4, put_ne h5]
    exact h.al x hx⟩
def alOf : List (Nat × Nat) → Nat → Nat
  | [], t => t
  | (x, y) :: l, t => match Nat.beq x t with
    | true => y
    | false => alOf l t
theorem alOf_eq {l : List (Nat × Nat)} {a : Act} (h : ∀ x, x ∈ l → a.tmps[x.1]? = a.tmps[x.2]?) (t : Nat) : a.tmps[alOf l t]? = a.tmps[t]? := by
  induction l with
  | nil => rfl
  | cons x l ih =>
    simp only [alOf]
    split
    · rename_i hb
      rw [← Nat.eq_of_beq_eq_true hb]
      exact (h x List.mem_cons_self).symm
    · exact ih (fun y hy => h y (List.mem_cons_of_mem _ hy))
def withAl (gv : GV) (d : Nat) : Op → GV
  | .move (.tmp s) => match Nat.beq d s with
    | false => ⟨gv.g, (d, s) :: gv.al⟩
    | true => gv
  | _ => gv

def pickOp (env : Env) (gv : GV) (cur : Gs) (c a b : Operand) : Option SV := match ev env gv cur c with
  | some .tt => ev env gv cur a
  | some .ff => ev env gv cur b
  | some (.v (.bool x)) => match c with
    | .tmp s => match ev env gv ((s, true) :: (alOf gv.al s, true) :: cur) a, ev env gv ((s, false) :: (alOf gv.al s, false) :: cur) b with
      | some .tt, some (.v (.bool y)) => some (.v (.bool (x || y)))
      | some (.v (.bool y)), some .ff => some (.v (.bool (x && y)))
      | some (.v (.bool y)), some (.v (.bool z)) => some (.v (.bool (bif x then y else z)))
      | _, _ => none
    | _ => none
  | _ => none

theorem on_cons {a : Act} {s : Nat} {b : Bool} {cur : Gs} (h : a.tmps[s]? = some (.bool b)) (hc : Gs.on cur a) : Gs.on ((s, b) :: cur) a := by
  intro g hg
  rcases List.mem_cons.1 hg with rfl | hg
  · exact h
  · exact hc g hg

theorem pickOp_val {C : Ctx} {env : Env} {gv : GV} {cur : Gs} {L : List Ent} {G : Ghost} {hs : Nat → Hd} {a : Act} {w : World} (S : Sim C env L G hs a w) (g : GOk C gv L hs a) (hc : Gs.on cur a) {c x y : Operand} {s : SV} (h : pickOp env gv cur c x y = some s) :
    ∃ b, a.eval c = .bool b ∧ (if b then a.eval x else a.eval y) = s.val hs ∧ s.lt L.length := by
  unfold pickOp at h
  split at h
  · rename_i hc1
    obtain ⟨h1, _⟩ := ev_val S g hc hc1
    obtain ⟨h2, h3⟩ := ev_val S g hc h
    exact ⟨true, h1, by simp [h2], h3⟩
  · rename_i hc1
    obtain ⟨h1, _⟩ := ev_val S g hc hc1
    obtain ⟨h2, h3⟩ := ev_val S g hc h
    exact ⟨false, h1, by simp [h2], h3⟩
  · rename_i b hc1
    split at h
    · rename_i sl
      have hl := look_val S g hc (t := sl) hc1
      simp only [SV.val, SV.cval] at hl
      have e1 : a.eval (.tmp sl) = .bool b := by simp [Act.eval, hl.1]
      refine ⟨b, e1, ?_⟩
      have hT : b = true → Gs.on ((sl, true) :: (alOf gv.al sl, true) :: cur) a := fun hb => on_cons (by rw [hl.1, hb]) (on_cons (by rw [alOf_eq g.al, hl.1, hb]) hc)
      have hF : b = false → Gs.on ((sl, false) :: (alOf gv.al sl, false) :: cur) a := fun hb => on_cons (by rw [hl.1, hb]) (on_cons (by rw [alOf_eq g.al, hl.1, hb]) hc)
      split at h
      · rename_i z hx hy
        obtain rfl := Option.some.inj h
        refine ⟨?_, trivial⟩
        cases hb : b with
        | true => rw [if_pos rfl, (ev_val S g (hT hb) hx).1]; rfl
        | false => rw [if_neg (by simp), (ev_val S g (hF hb) hy).1]; rfl
      · rename_i z hx hy
        obtain rfl := Option.some.inj h
        refine ⟨?_, trivial⟩
        cases hb : b with
        | true => rw [if_pos rfl, (ev_val S g (hT hb) hx).1]; rfl
        | false => rw [if_neg (by simp), (ev_val S g (hF hb) hy).1]; rfl
      · rename_i z u hx hy
        obtain rfl := Option.some.inj h
        refine ⟨?_, trivial⟩
        cases hb : b with
        | true => rw [if_pos rfl, (ev_val S g (hT hb) hx).1]; rfl
        | false => rw [if_neg (by simp), (ev_val S g (hF hb) hy).1]; rfl
      · simp at h
    · simp at h
  · simp at h

/-- A value, where nothing turns. -/
def vOp (T : Tab) (env : Env) (gv : GV) (cur : Gs) (L : List Ent) : Op → Option SV
  | .pick c a b => pickOp env gv cur c a b
  | op => valOp T (ev env gv cur) L op

theorem vOp_run {P : Program} {T : Tab} (hT : TOk P T) {C : Ctx} {env : Env} {gv : GV} {cur : Gs} {L : List Ent} {G : Ghost} {hs : Nat → Hd} {a : Act} {w : World} (S : Sim C env L G hs a w) (g : GOk C gv L hs a) (hc : Gs.on cur a) {o : Oper} {s : SV} (h : vOp T env gv cur L o.op = some s) :
    (execOp a.eval o).run P w = .ok (.value (s.val hs)) w ∧ s.lt L.length := by
  unfold vOp at h
  split at h
  · rename_i c x y hop
    obtain ⟨b, h1, h2, h3⟩ := pickOp_val S g hc h
    refine ⟨?_, h3⟩
    rw [← h2]
    simp only [execOp, hop, h1]
    cases b <;> simp [asBool]
  · exact valOp_run hT (fun x s hx => ev_val S g hc hx) S.holds h

theorem allOne_mem {l : List Value} (h : rowOf.allOne l = true) : ∀ v ∈ l, v.oneCell' = true := by
  induction l with
  | nil => simp
  | cons x l ih =>
    simp only [rowOf.allOne] at h
    split at h
    · rename_i hx
      intro v hv
      rcases List.mem_cons.1 hv with rfl | hv
      · exact hx
      · exact ih h v hv
    · simp at h
theorem rowOf_val {size : Nat} {ps : List (Nat × SV)} : ∀ {i : Nat} {es : List Value}, rowOf size i ps = some es → es.length = ps.length ∧ (∀ u ∈ es, u.cells.size = size) ∧ (∀ u ∈ es, ∀ c ∈ u.cells, c.oneCell' = true) ∧
    ∀ hs : Nat → Hd, ps.map (fun p => (p.1, p.2.val hs)) = es.zipIdx.map (fun p => (i + p.2, p.1)) := by
  induction ps with
  | nil => intro i es h; simp [rowOf] at h; subst h; simp
  | cons p l ih =>
    intro i es h
    obtain ⟨j, s⟩ := p
    simp only [rowOf] at h
    split at h
    · rename_i v hij hv
      obtain rfl := Nat.eq_of_beq_eq_true hij
      split at h
      · rename_i r hl hone hr
        obtain rfl := Option.some.inj h
        obtain ⟨h1, h2, h3, h4⟩ := ih hr
        have hsz := Nat.eq_of_beq_eq_true hl
        rw [len'_eq, Array.length_toList] at hsz
        refine ⟨by simp [h1], fun u hu => ?_, fun u hu c hc => ?_, fun hs => ?_⟩
        · rcases List.mem_cons.1 hu with rfl | hu
          · exact hsz
          · exact h2 u hu
        · rcases List.mem_cons.1 hu with rfl | hu
          · exact allOne_mem hone c (by simpa using hc)
          · exact h3 u hu c hc
        · simp only [List.map_cons, List.zipIdx_cons, SV.plain_val hv, h4 hs, Nat.add_zero]
          congr 1
          rw [List.zipIdx_succ, List.map_map]
          refine List.map_congr_left (fun p _ => ?_)
          simp only [Function.comp]
          congr 1; omega
      · simp at h
    · simp at h
theorem zipIdx_fill {size : Nat} (hs : 0 < size) (es : List Value) : ∀ (k : Nat) (pre rest : List Value), (∀ u ∈ es, u.cells.size = size) → pre.length = k * size → rest.length = es.length * size →
    Instr.fill (fun i => some (i * size, size)) (pre ++ rest).toArray (es.zipIdx.map (fun p => (k + p.2, p.1))) = some (pre ++ flat es).toArray := by
  induction es with
  | nil => intro k pre rest _ _ hr; simp at hr; subst hr; simp [Instr.fill, flat]
  | cons v es ih =>
    intro k pre rest hsz hp hr
    have hv : v.cells.size = size := hsz v List.mem_cons_self
    have hlen : rest.length = size + es.length * size := by rw [hr, List.length_cons, Nat.succ_mul, Nat.add_comm]
    simp only [List.zipIdx_cons, List.map_cons, Nat.add_zero, Instr.fill]
    rw [if_neg (by simp [hv]; omega)]
    have hcells : v.cells.zipIdx.foldl (fun cs (c, j) => cs.setIfInBounds (k * size + j) c) (pre ++ rest).toArray = ((pre ++ v.cells.toList) ++ rest.drop size).toArray := by
      have := fold_set (k * size) v.cells.toList 0 (pre ++ rest).toArray
      rw [Array.toArray_toList] at this
      rw [this]
      congr 1
      obtain ⟨h4, h5⟩ := foldl_get (k * size) v.cells.toList 0 (pre ++ rest)
      refine List.ext_getElem? fun j => ?_
      rw [h5 j]
      simp only [Nat.add_zero, Array.length_toList, hv, List.length_append]
      by_cases hj : k * size ≤ j ∧ j < k * size + size
      · rw [if_pos ⟨hj.1, hj.2, by omega⟩, List.getElem?_append_left (by simp; omega), List.getElem?_append_right (by omega), hp]
      · rw [if_neg (by omega)]
        by_cases hj2 : j < pre.length
        · rw [List.getElem?_append_left hj2, List.getElem?_append_left (by simp; omega), List.getElem?_append_left hj2]
        · rw [List.getElem?_append_right (by omega), List.getElem?_append_right (by simp; omega), List.getElem?_drop]
          congr 1; simp; omega
    rw [hcells, List.zipIdx_succ, List.map_map]
    have := ih (k + 1) (pre ++ v.cells.toList) (rest.drop size) (fun u hu => hsz u (List.mem_cons_of_mem _ hu)) (by simp [hp, hv, Nat.succ_mul]) (by simp [hlen])
    refine Eq.trans (congrArg (Instr.fill _ _) (List.map_congr_left (g := fun p => (k + 1 + p.2, p.1)) (fun p _ => ?_))) ?_
    · simp only [Function.comp]; congr 1; omega
    rw [this]
    simp [flat]

theorem memOp_run {P : Program} {T : Tab} (hT : TOk P T) {C : Ctx} {env : Env} {gv : GV} {L L' : List Ent} {G : Ghost} {hs : Nat → Hd} {a : Act} {w : World} (S : Sim C env L G hs a w) (g : GOk C gv L hs a) {o : Oper} {s : Option SV} (h : memOp T (ev env gv []) L o.op = some (s, L')) :
    ∃ w' hs' nx v, (execOp a.eval o).run P w = .ok nx w' ∧ (nx = .value v ∨ nx = .skip ∧ v = undef) ∧ Sim C env L' G hs' a w' ∧ GOk C gv L' hs' a ∧ ∀ s', s = some s' → v = s'.val hs' ∧ s'.lt L'.length := by
  have hf := fun x s (hx : ev env gv [] x = some s) => ev_val S g (fun _ h => absurd h (by simp)) hx
  have hro := rowsOk (fun r e hr => (S.holds r e hr).1)
  unfold memOp at h
  split at h
  · rename_i t x hop
    split at h
    · rename_i v hv
      split at h
      · rename_i cs hcs
        simp only [Option.some.injEq, Prod.mk.injEq, len'_eq, app_eq] at h
        obtain ⟨rfl, rfl⟩ := h
        obtain ⟨hv1, hv2⟩ := hf _ _ hv
        have hc := cellsS_val hcs hro
        have S' := S.alloc (.cells (v.val hs).cells t) (.box t cs) (.bool true) (cellsS_lt hcs hv2) (by show _ = some (Obj.cells (cvals hs cs).toArray t (0, 0)); rw [← hc]; exact heap_alloc_new w _) (fun k hk => by simp [Ent.at_] at hk; exact hk.symm)
        refine ⟨_, _, .value (.pointer (some ⟨w.heap.size, 0, none⟩)), _, ?_, .inl rfl, S', g.move (by simp) (fun r hr => by simp [Nat.ne_of_lt hr]), fun s' hs' => ?_⟩
        · simp [execOp, hop, hv1, Instr.box, newVar, newRow]
        · obtain rfl := Option.some.inj hs'
          simp [SV.val, SV.cval, SV.lt, SV.clt]
      · simp at h
    · simp at h
  · rename_i t hop
    split at h
    · rename_i z _ ht
      split at h
      · rename_i cs hcs
        obtain rfl := forceL_eq hcs
        simp only [Option.some.injEq, Prod.mk.injEq, len'_eq, app_eq] at h
        obtain ⟨rfl, rfl⟩ := h
        obtain ⟨zv, hz, hzr⟩ := run_zero hT ht w
        have S' := S.alloc (.cells zv.cells t) (.box t (vs z)) (.bool true) (vs_clt _ _) (by show _ = some (Obj.cells (cvals hs (vs z)).toArray t (0, 0)); rw [vs_val, ← (show zv.cells.toList = z from hz)]; exact heap_alloc_new w _) (fun k hk => by simp [Ent.at_] at hk; exact hk.symm)
        refine ⟨_, _, .value (.pointer (some ⟨w.heap.size, 0, none⟩)), _, ?_, .inl rfl, S', g.move (by simp) (fun r hr => by simp [Nat.ne_of_lt hr]), fun s' hs' => ?_⟩
        · simp [execOp, hop, Instr.alloc, newVar, newRow, hzr]
        · obtain rfl := Option.some.inj hs'
          simp [SV.val, SV.cval, SV.lt, SV.clt]
      · simp at h
    · simp at h
  · rename_i t x y hop
    split at h
    · rename_i r off hx
      split at h
      · rename_i bt cs hr
        rw [nth_eq] at hr
        split at h
        · rename_i v size _ _ _ hv ht
          split at h
          · rename_i cv hcv
            split at h
            · rename_i cs' hl hone hset
              simp only [Option.some.injEq, Prod.mk.injEq, setL_eq] at h
              obtain ⟨rfl, rfl⟩ := h
              obtain ⟨hx1, hx2⟩ := hf _ _ hx
              obtain ⟨hv1, hv2⟩ := hf _ _ hv
              obtain ⟨hb, hbl⟩ := S.holds r _ hr
              have hc := cellsS_val hcv hro
              have hset' := setN_cvals (hs := hs) hset
              obtain ⟨w', hrun, hg', ho, hz⟩ := storeCells_only (P := P) (hs r).blk bt (cvals hs cv) off 0 _ _ w hb (oneAll_val hone hro) hset'
              have hfun : (fun q => if q = r then hs r else hs q) = hs := funext fun q => by split <;> simp_all
              have S' := S.turn (e' := .box bt cs') (hv := hs r) hr (fun k hk hne => ho.block k hk (fun e => hne (by rw [e]; rfl))) ho.os ho.tape ho.output ho.size (by rw [hfun]; exact hg') (setN_clt hset (cellsS_lt hcv hv2) hbl) (fun k hk => .inl hk) (fun t s ht => by rw [hfun]) (fun q f _ _ => Ent.sees_eq hfun f)
              rw [hfun] at S'
              refine ⟨w', hs, .skip, undef, ?_, .inr ⟨rfl, rfl⟩, S', g.move (by simp) (fun _ _ => rfl), fun s' hs' => by simp at hs'⟩
              have hsz : (v.val hs).cells.size = size := by
                have := Nat.eq_of_beq_eq_true hl
                rwa [len'_eq, ← cvals_len hs, ← hc, Array.length_toList] at this
              have hxv : a.eval x = .pointer (some ⟨(hs r).blk, off, none⟩) := hx1
              simp only [execOp, hop, hxv, hv1, Instr.storeAt, Instr.sureAddr, Sem.run_bind, Sem.run_pure, Result.andThen_ok, storeVar, run_size hT ht]
              rw [if_neg (by simp [hsz])]
              simp only [Sem.run_pure, Result.andThen_ok, hc, hrun]
            · simp at h
          · simp at h
        · simp at h
      · simp at h
    · simp at h
  · rename_i t n ps hop
    split at h
    · rename_i e ht
      split at h
      · rename_i size _ _ _ ps' hte hps
        split at h
        · rename_i es hes hn hle hpos
          simp only [Option.some.injEq, Prod.mk.injEq, len'_eq, app_eq] at h
          obtain ⟨rfl, rfl⟩ := h
          have hn' := Nat.eq_of_beq_eq_true hn
          rw [len'_eq] at hn'
          obtain ⟨h1, h2, h3, h4⟩ := rowOf_val hes
          obtain ⟨u, hk, hr⟩ := run_und hT ht w
          obtain rfl := und_slice hk
          obtain ⟨zv, hz, hzr⟩ := run_zero hT hte w
          have hle' : n * size ≤ 16777216 := by simpa using hle
          have hpos' : 0 < size := Nat.le_of_ble_eq_true hpos
          have hfl : (flat es).length = n * size := by
            have : ∀ l : List Value, (∀ u ∈ l, u.cells.size = size) → (flat l).length = l.length * size := by
              intro l
              induction l with
              | nil => intro _; simp [flat]
              | cons x l ih => intro hx; have := ih (fun u hu => hx u (List.mem_cons_of_mem _ hu)); simp [flat] at this ⊢; rw [this, hx x List.mem_cons_self, Nat.succ_mul, Nat.add_comm]
            rw [this es h2, h1, hn']
          have S' := S.alloc (.cells (flat es).toArray e) (.row e size n es) (.slice (some ⟨w.heap.size, 0, none⟩) n n) trivial
            ⟨by rw [h1, hn'], h2, h3, ⟨by rw [hfl], .inr ⟨w.heap.size, n, (flat es).toArray, rfl, Nat.zero_le _, heap_alloc_new w _, Nat.le_refl _, by unfold maxLen; have := Nat.le_mul_of_pos_right n hpos'; omega, by simp [hfl], by simp [← hfl]⟩⟩, fun k hk => by simp [Value.ownBlock] at hk; exact hk.symm⟩
            (fun k hk => by simp [Ent.at_, Value.ownBlock] at hk; exact hk.symm)
          refine ⟨_, _, .value (.slice (some ⟨w.heap.size, 0, none⟩) n n), _, ?_, .inl rfl, S', g.move (by simp) (fun r hr => by simp [Nat.ne_of_lt hr]), fun s' hs' => ?_⟩
          · have hfill := zipIdx_fill hpos' es 0 [] ((List.range (n * size)).map (zv.cells[· % zv.cells.size]!)) h2 (by simp) (by simp [h1, hn'])
            have hparts : (ps.map fun (i, x) => (i, a.eval x)).toList = es.zipIdx.map (fun p => (0 + p.2, p.1)) := by rw [map_parts hf hps, ← h4 hs]
            simp only [execOp, hop, Instr.buildSlice, Sem.run_bind, hr, Result.andThen_ok, run_size hT hte]
            rw [if_neg (by omega)]
            simp only [Sem.run_pure, Result.andThen_ok]
            by_cases h0 : n * size = 0
            · have hn0 : n = 0 := by rcases Nat.mul_eq_zero.1 h0 with h | h <;> omega
              subst hn0
              have hes0 : es = [] := List.eq_nil_of_length_eq_zero (by omega)
              subst hes0
              rw [if_pos h0]
              simp only [Sem.run_pure, Result.andThen_ok, hparts]
              have hr0 : (Array.range 0).map (fun _ => (default : Value)) = #[] := Array.eq_empty_of_size_eq_zero (by simp)
              simp [Instr.fill, newRow, flat, hr0]
            · rw [if_neg h0]
              simp only [hzr, Sem.run_bind, Sem.run_pure, Result.andThen_ok, hparts]
              have harr : (Array.range (n * size)).map (zv.cells[· % zv.cells.size]!) = ([] ++ (List.range (n * size)).map (zv.cells[· % zv.cells.size]!)).toArray := by
                refine Array.toList_inj.1 ?_
                simp
              rw [harr, hfill]
              simp [newRow]
          · obtain rfl := Option.some.inj hs'
            simp [SV.val, SV.cval, SV.lt, SV.clt]
        · simp at h
      · simp at h
    · simp at h
  · simp at h

def exec (T : Tab) (n : Nat) (o : Oper) (env : Env) (gv : GV) (L : List Ent) : Option (Env × GV × List Ent) :=
  match o.dst with
  | some d => match Nat.blt d n, gfree gv d with
    | true, true => match vOp T env gv [] L o.op with
      | some s => some ((d, some s) :: env, (match s with
        | .v (.bool _) => withAl gv d o.op
        | _ => gv), L)
      | none => match memOp T (ev env gv []) L o.op with
        | some (some s, L') => some ((d, some s) :: env, gv, L')
        | some (none, L') => some ((d, none) :: env, gv, L')
        | none => none
    | _, _ => none
  | none => match memOp T (ev env gv []) L o.op with
    | some (_, L') => some (env, gv, L')
    | none => none
def gexec (T : Tab) (n : Nat) (o : Oper) (cur : Gs) (env : Env) (gv : GV) (L : List Ent) : Option (Env × GV × List Ent) :=
  match o.dst with
  | some d => match Nat.blt d n, gfree gv d, gslots cur d, vOp T env gv cur L o.op with
    | true, true, true, some s => some ((d, none) :: env, ⟨(d, s, cur) :: gv.g, (match o.op with
      | .move (.tmp q) => match find env q, gfind gv.g q, Nat.beq d q with
        | none, some (_, gs), false => match gsub gs cur, gsub cur gs with
          | true, true => (d, q) :: gv.al
          | _, _ => gv.al
        | _, _, _ => gv.al
      | _ => gv.al)⟩, L)
    | _, _, _, _ => none
  | none => none
def pass (n : Nat) (o : Oper) (env : Env) (gv : GV) (L : List Ent) : Option (Env × GV × List Ent) :=
  match o.dst with
  | some d => match gfree gv d, Nat.blt d n with
    | true, true => some ((d, some (.v undef)) :: env, gv, L)
    | _, _ => none
  | none => some (env, gv, L)
def dstOf (lops : List Oper) (j : Nat) : Option Nat := match nth lops j with
  | some o => o.dst
  | none => none
def step (T : Tab) (n : Nat) (lops : List Oper) (o : Oper) (env : Env) (gv : GV) (L : List Ent) : Option (Env × GV × List Ent) :=
  match o.guard with
  | none => exec T n o env gv L
  | some (j, want) => match dstOf lops j with
    | none => none
    | some sj => match find env sj with
      | some s => match s with
        | .tt => match want with
          | true => exec T n o env gv L
          | false => pass n o env gv L
        | .ff => match want with
          | true => pass n o env gv L
          | false => exec T n o env gv L
        | .v x => match x with
          | .bool _ => gexec T n o [(sj, want)] env gv L
          | .tuple _ => pass n o env gv L
          | _ => none
        | _ => none
      | none => match gfind gv.g sj with
        | some (_, gs) => gexec T n o ((sj, want) :: gs) env gv L
        | none => none
/-! the state, its spine laid open -/
def natF : Nat → Option Nat
  | 0 => some 0
  | n + 1 => match natF n with
    | some m => some (m + 1)
    | none => none
theorem natF_eq {n m : Nat} (h : natF n = some m) : m = n := by
  induction n generalizing m with
  | zero => simp [natF] at h; exact h.symm
  | succ n ih =>
    simp only [natF] at h
    split at h
    · rename_i q hq; rw [← Option.some.inj h, ih hq]
    · simp at h
def fC : SV → Option SV
  | .p r o => match natF r with
    | some r' => some (.p r' o)
    | none => none
  | .row r => match natF r with
    | some r' => some (.row r')
    | none => none
  | .mp r => match natF r with
    | some r' => some (.mp r')
    | none => none
  | .ip t r o => match natF r with
    | some r' => some (.ip t r' o)
    | none => none
  | s => some s
theorem fC_eq {s t : SV} (h : fC s = some t) : t = s := by
  cases s with
  | p r o => simp only [fC] at h; split at h
             · rename_i r' hr; rw [natF_eq hr] at h; exact (Option.some.inj h).symm
             · simp at h
  | row r => simp only [fC] at h; split at h
             · rename_i r' hr; rw [natF_eq hr] at h; exact (Option.some.inj h).symm
             · simp at h
  | mp r => simp only [fC] at h; split at h
            · rename_i r' hr; rw [natF_eq hr] at h; exact (Option.some.inj h).symm
            · simp at h
  | ip t r o => simp only [fC] at h; split at h
                · rename_i r' hr; rw [natF_eq hr] at h; exact (Option.some.inj h).symm
                · simp at h
  | _ => exact (Option.some.inj h).symm
def fCs : List SV → Option (List SV)
  | [] => some []
  | s :: l => match fC s, fCs l with
    | some t, some r => some (t :: r)
    | _, _ => none
theorem fCs_eq {l r : List SV} (h : fCs l = some r) : r = l := by
  induction l generalizing r with
  | nil => exact (Option.some.inj h).symm
  | cons s l ih =>
    simp only [fCs] at h
    split at h
    · rename_i t r' h1 h2; rw [← Option.some.inj h, fC_eq h1, ih h2]
    · simp at h
def fS : SV → Option SV
  | .agg cs => match fCs cs with
    | some cs' => some (.agg cs')
    | none => none
  | .fn f cs => match fCs cs with
    | some cs' => some (.fn f cs')
    | none => none
  | s => fC s
theorem fS_eq {s t : SV} (h : fS s = some t) : t = s := by
  cases s with
  | agg cs => simp only [fS] at h; split at h
              · rename_i r' hr; rw [fCs_eq hr] at h; exact (Option.some.inj h).symm
              · simp at h
  | fn f cs => simp only [fS] at h; split at h
               · rename_i r' hr; rw [fCs_eq hr] at h; exact (Option.some.inj h).symm
               · simp at h
  | p r o => exact fC_eq h
  | row r => exact fC_eq h
  | mp r => exact fC_eq h
  | ip t r o => exact fC_eq h
  | v x => exact fC_eq h
  | tt => exact fC_eq h
  | ff => exact fC_eq h
def fSs : List SV → Option (List SV)
  | [] => some []
  | s :: l => match fS s, fSs l with
    | some t, some r => some (t :: r)
    | _, _ => none
theorem fSs_eq {l r : List SV} (h : fSs l = some r) : r = l := by
  induction l generalizing r with
  | nil => exact (Option.some.inj h).symm
  | cons s l ih =>
    simp only [fSs] at h
    split at h
    · rename_i t r' h1 h2; rw [← Option.some.inj h, fS_eq h1, ih h2]
    · simp at h
def fE : Env → Option Env
  | [] => some []
  | (d, none) :: l => match fE l with
    | some r => some ((d, none) :: r)
    | none => none
  | (d, some s) :: l => match fS s, fE l with
    | some t, some r => some ((d, some t) :: r)
    | _, _ => none
theorem fE_eq {l r : Env} (h : fE l = some r) : r = l := by
  induction l generalizing r with
  | nil => exact (Option.some.inj h).symm
  | cons x l ih =>
    obtain ⟨d, o⟩ := x
    cases o with
    | none =>
      simp only [fE] at h
      split at h
      · rename_i r' h2; rw [← Option.some.inj h, ih h2]
      · simp at h
    | some s =>
      simp only [fE] at h
      split at h
      · rename_i t r' h1 h2; rw [← Option.some.inj h, fS_eq h1, ih h2]
      · simp at h
def fN : Ent → Option Ent
  | .box t cs => match fCs cs with
    | some cs' => some (.box t cs')
    | none => none
  | .sav ss vs => match fSs ss with
    | some ss' => some (.sav ss' vs)
    | none => none
  | e => some e
theorem fN_eq {e f : Ent} (h : fN e = some f) : f = e := by
  cases e with
  | sav ss vs => simp only [fN] at h; split at h
                 · rename_i r' hr; rw [fSs_eq hr] at h; exact (Option.some.inj h).symm
                 · simp at h
  | box t cs => simp only [fN] at h; split at h
                · rename_i r' hr; rw [fCs_eq hr] at h; exact (Option.some.inj h).symm
                · simp at h
  | _ => exact (Option.some.inj h).symm
def fR : List Ent → Option (List Ent)
  | [] => some []
  | e :: l => match fN e, fR l with
    | some t, some r => some (t :: r)
    | _, _ => none
theorem fR_eq {l r : List Ent} (h : fR l = some r) : r = l := by
  induction l generalizing r with
  | nil => exact (Option.some.inj h).symm
  | cons s l ih =>
    simp only [fR] at h
    split at h
    · rename_i t r' h1 h2; rw [← Option.some.inj h, fN_eq h1, ih h2]
    · simp at h
def fA : List (Nat × Nat) → Option (List (Nat × Nat))
  | [] => some []
  | (a, b) :: l => match fA l with
    | some r => some ((a, b) :: r)
    | none => none
theorem fA_eq {l r : List (Nat × Nat)} (h : fA l = some r) : r = l := by
  induction l generalizing r with
  | nil => exact (Option.some.inj h).symm
  | cons x l ih =>
    simp only [fA] at h
    split at h
    · rename_i r' h2; rw [← Option.some.inj h, ih h2]
    · simp at h
def fGL : GL → Option GL
  | [] => some []
  | (a, s, gs) :: l => match fS s, fGL l with
    | some t, some r => some ((a, t, gs) :: r)
    | _, _ => none
theorem fGL_eq {l r : GL} (h : fGL l = some r) : r = l := by
  induction l generalizing r with
  | nil => exact (Option.some.inj h).symm
  | cons x l ih =>
    simp only [fGL] at h
    split at h
    · rename_i t r' h1 h2; rw [← Option.some.inj h, fS_eq h1, ih h2]
    · simp at h
def fG : GV → Option GV
  | ⟨g, al⟩ => match fGL g, fA al with
    | some g', some al' => some ⟨g', al'⟩
    | _, _ => none
theorem fG_eq {g r : GV} (h : fG g = some r) : r = g := by
  obtain ⟨g, al⟩ := g
  simp only [fG] at h
  split at h
  · rename_i g' al' h1 h2; rw [← Option.some.inj h, fGL_eq h1, fA_eq h2]
  · simp at h

def run (T : Tab) (n : Nat) (lops : List Oper) : Nat → List Oper → Env → GV → List Ent → Option (List Oper × Env × GV × List Ent)
  | 0, l, env, gv, L => match fE env, fG gv, fR L with
    | some env', some gv', some L' => some (l, env', gv', L')
    | _, _, _ => none
  | k + 1, o :: l, env, gv, L => match step T n lops o env gv L with
    | some (env', gv', L') => run T n lops k l env' gv' L'
    | none => none
  | _ + 1, [], _, _, _ => none

def EL (P : Program) (lops : List Oper) (Q : Exit → Act → World → Prop) (C : Ctx) (l : List Oper) (env : Env) (gv : GV) (L : List Ent) (G : Ghost) : Prop :=
  ∀ hs a w, Sim C env L G hs a w → GOk C gv L hs a → wpList P lops.toArray Q l a w
def E (P : Program) (c : Code) (Q : Exit → Act → World → Prop) (C : Ctx) (env : Env) (L : List Ent) (G : Ghost) : Prop :=
  ∀ hs a w, Sim C env L G hs a w → c.wp P Q a w
def EX (Q : Exit → Act → World → Prop) (e : Exit) (C : Ctx) (env : Env) (L : List Ent) (G : Ghost) : Prop :=
  ∀ hs a w, Sim C env L G hs a w → Q e a w

section
variable {P : Program} {T : Tab} {lops l l' : List Oper} {Q : Exit → Act → World → Prop} {C : Ctx} {env env' : Env} {gv gv' : GV} {L L' : List Ent} {G G' : Ghost} {o : Oper}

theorem yielded_of {a : Act} {j sj : Nat} (h : dstOf lops j = some sj) : yielded lops.toArray a.tmps j = match a.tmps[sj]? with
    | some (.bool b) => some b
    | _ => none := by
  unfold dstOf at h
  split at h
  · rename_i o ho
    rw [nth_eq] at ho
    unfold yielded
    have : (lops.toArray[j]?).bind (·.dst) = some sj := by simp [ho, h]
    rw [this]
    rfl
  · simp at h

theorem withAl_ok {hs : Nat → Hd} {a : Act} {w : World} (S : Sim C env L G hs a w) (g : GOk C gv L hs a) {d : Nat} (hfree : gfree gv d = true) (hlt : d < C.n) {s : SV} (hv : vOp T env gv [] L o.op = some s) (h : GOk C gv L hs (a.put (some d) (s.val hs))) :
    GOk C (withAl gv d o.op) L hs (a.put (some d) (s.val hs)) := by
  unfold withAl
  split
  · rename_i q hop
    split
    · rename_i hb
      rw [hop] at hv
      have hq := look_val S g (fun _ h => absurd h (by simp)) (t := q) (cur := []) hv
      have hne : q ≠ d := fun e => by rw [e] at hb; simp at hb
      refine ⟨h.on, fun x hx => ?_⟩
      rcases List.mem_cons.1 hx with rfl | hx
      · show (a.put (some d) (s.val hs)).tmps[d]? = (a.put (some d) (s.val hs)).tmps[q]?
        rw [put_ne hne, hq.1]
        simp [Act.put, S.size, hlt]
      · exact h.al x hx
    · exact h
  · exact h

theorem wpList_exec (hT : TOk P T) {hs : Nat → Hd} {a : Act} {w : World} (S : Sim C env L G hs a w) (g : GOk C gv L hs a) (h : exec T C.n o env gv L = some (env', gv', L')) (k : EL P lops Q C l env' gv' L' G) :
    o.wp P a w (wpList P lops.toArray Q l) Q := by
  have h0 : Gs.on [] a := fun _ h => absurd h (by simp)
  unfold exec at h
  split at h
  · rename_i d hd
    split at h
    · rename_i hlt hfree
      have hlt' : d < C.n := by simpa using hlt
      split at h
      · rename_i s hs'
        simp only [Option.some.injEq, Prod.mk.injEq] at h
        obtain ⟨rfl, rfl, rfl⟩ := h
        obtain ⟨hrun, hslt⟩ := vOp_run hT S g h0 hs'
        unfold Oper.wp
        rw [hrun, Oper.upon_value, hd]
        refine k _ _ _ (S.put hlt' hslt) ?_
        have hgp := g.put hfree (s.val hs)
        split
        · rename_i b
          exact withAl_ok S g hfree hlt' hs' hgp
        · exact hgp
      · split at h
        · rename_i s L1 hm
          simp only [Option.some.injEq, Prod.mk.injEq] at h
          obtain ⟨rfl, rfl, rfl⟩ := h
          obtain ⟨w', hs1, nx, v, hrun, hnx, S', g', hv⟩ := memOp_run hT S g hm
          obtain ⟨hv1, hv2⟩ := hv s rfl
          unfold Oper.wp
          rw [hrun]
          rcases hnx with rfl | ⟨rfl, rfl⟩
          · rw [Oper.upon_value, hd, hv1]; exact k _ _ _ (S'.put hlt' hv2) (g'.put hfree _)
          · rw [Oper.upon_skip, hd, hv1]; exact k _ _ _ (S'.put hlt' hv2) (g'.put hfree _)
        · rename_i L1 hm
          simp only [Option.some.injEq, Prod.mk.injEq] at h
          obtain ⟨rfl, rfl, rfl⟩ := h
          obtain ⟨w', hs1, nx, v, hrun, hnx, S', g', hv⟩ := memOp_run hT S g hm
          unfold Oper.wp
          rw [hrun]
          rcases hnx with rfl | ⟨rfl, rfl⟩
          · rw [Oper.upon_value, hd]; exact k _ _ _ (S'.putNone d _) (g'.put hfree _)
          · rw [Oper.upon_skip, hd]; exact k _ _ _ (S'.putNone d _) (g'.put hfree _)
        · simp at h
    · simp at h
  · rename_i hd
    split at h
    · rename_i s L1 hm
      simp only [Option.some.injEq, Prod.mk.injEq] at h
      obtain ⟨rfl, rfl, rfl⟩ := h
      obtain ⟨w', hs1, nx, v, hrun, hnx, S', g', hv⟩ := memOp_run hT S g hm
      unfold Oper.wp
      rw [hrun]
      rcases hnx with rfl | ⟨rfl, rfl⟩
      · rw [Oper.upon_value, hd]; exact k _ _ _ S' g'
      · rw [Oper.upon_skip, hd]; exact k _ _ _ S' g'
    · simp at h

theorem wpList_pass {hs : Nat → Hd} {a : Act} {w : World} (S : Sim C env L G hs a w) (g : GOk C gv L hs a) (h : pass C.n o env gv L = some (env', gv', L')) (k : EL P lops Q C l env' gv' L' G) :
    wpList P lops.toArray Q l (a.put o.dst undef) w := by
  unfold pass at h
  split at h
  · rename_i d hd
    split at h
    · rename_i hfree hlt
      simp only [Option.some.injEq, Prod.mk.injEq] at h
      obtain ⟨rfl, rfl, rfl⟩ := h
      rw [hd]
      exact k _ _ _ (S.put (s := .v undef) (by simpa using hlt) trivial) (g.put hfree _)
    · simp at h
  · rename_i hd
    simp only [Option.some.injEq, Prod.mk.injEq] at h
    obtain ⟨rfl, rfl, rfl⟩ := h
    rw [hd]
    exact k _ _ _ S g

theorem gput (gv : GV) {hs : Nat → Hd} {a : Act} {w : World} (S : Sim C env L G hs a w) (g : GOk C gv L hs a) {d : Nat} {s : SV} {cur : Gs} (hlt : d < C.n) (hfree : gfree gv d = true) (hcur : gslots cur d = true) (v : Value)
    (hv : (Gs.on cur a → v = s.val hs ∧ s.lt L.length) ∧ (¬ Gs.on cur a → v = undef)) : GOk C ⟨(d, s, cur) :: gv.g, gv.al⟩ L hs (a.put (some d) v) :=
  ⟨fun t s1 gs1 ht => by
    simp only [gfind] at ht
    split at ht
    · rename_i hb
      obtain rfl := Nat.eq_of_beq_eq_true hb
      simp only [Option.some.injEq, Prod.mk.injEq] at ht
      obtain ⟨rfl, rfl⟩ := ht
      have e : (a.put (some d) v).tmps[d]? = some v := by simp [Act.put, S.size, hlt]
      rw [e, on_put hcur]
      exact ⟨fun ho => ⟨by rw [(hv.1 ho).1], (hv.1 ho).2⟩, fun ho => by rw [hv.2 ho]⟩
    · exact (g.put hfree v).on t s1 gs1 ht, (g.put hfree v).al⟩

theorem gal {hs : Nat → Hd} {a : Act} {d : Nat} {s : SV} {cur : Gs} {v : Value} (hlt : d < a.tmps.size) (g : GOk C gv L hs a) (h : GOk C ⟨(d, s, cur) :: gv.g, gv.al⟩ L hs (a.put (some d) v))
    (hv : ∀ q, o.op = .move (.tmp q) → q ≠ d → ∀ u gs, gfind gv.g q = some (u, gs) → (Gs.on gs a ↔ Gs.on cur a) → a.tmps[q]? = some v) :
    GOk C ⟨(d, s, cur) :: gv.g, (match o.op with
      | .move (.tmp q) => match find env q, gfind gv.g q, Nat.beq d q with
        | none, some (_, gs), false => match gsub gs cur, gsub cur gs with
          | true, true => (d, q) :: gv.al
          | _, _ => gv.al
        | _, _, _ => gv.al
      | _ => gv.al)⟩ L hs (a.put (some d) v) := by
  split
  · rename_i q hop
    split
    · rename_i u gs hf hgf hb
      split
      · rename_i h1 h2
        have hne : q ≠ d := fun e => by rw [e] at hb; simp at hb
        refine ⟨h.on, fun x hx => ?_⟩
        rcases List.mem_cons.1 hx with rfl | hx
        · show (a.put (some d) v).tmps[d]? = (a.put (some d) v).tmps[q]?
          rw [put_ne hne, hv q hop hne u gs hgf ⟨fun ho => gsub_on h2 ho, fun ho => gsub_on h1 ho⟩]
          simp [Act.put, hlt]
        · exact h.al x hx
      · exact h
    · exact h
  · exact h

theorem wpList_gexec (hT : TOk P T) {hs : Nat → Hd} {a : Act} {w : World} (S : Sim C env L G hs a w) (g : GOk C gv L hs a) {cur : Gs} (h : gexec T C.n o cur env gv L = some (env', gv', L')) (k : EL P lops Q C l env' gv' L' G) :
    (Gs.on cur a → o.wp P a w (wpList P lops.toArray Q l) Q) ∧ (¬ Gs.on cur a → wpList P lops.toArray Q l (a.put o.dst undef) w) := by
  unfold gexec at h
  split at h
  · rename_i d hd
    split at h
    · rename_i s hlt hfree hcur hs'
      have hlt' : d < C.n := by simpa using hlt
      simp only [Option.some.injEq, Prod.mk.injEq] at h
      obtain ⟨rfl, rfl, rfl⟩ := h
      refine ⟨fun hon => ?_, fun hoff => ?_⟩
      · obtain ⟨hrun, hslt⟩ := vOp_run hT S g hon hs'
        unfold Oper.wp
        rw [hrun, Oper.upon_value, hd]
        refine k _ _ _ (S.putNone d _) (gal (by rw [S.size]; exact hlt') g (gput gv S g hlt' hfree hcur _ ⟨fun _ => ⟨rfl, hslt⟩, fun hn => absurd hon hn⟩) (fun q hop hne u gs hgf hiff => ?_))
        rw [hop] at hs'
        exact (look_val S g hon (t := q) hs').1
      · rw [hd]
        refine k _ _ _ (S.putNone d _) (gal (by rw [S.size]; exact hlt') g (gput gv S g hlt' hfree hcur _ ⟨fun hn => absurd hn hoff, fun _ => rfl⟩) (fun q hop hne u gs hgf hiff => ?_))
        exact (g.on q u gs hgf).2 (fun ho => hoff (hiff.1 ho))
    · simp at h
  · simp at h
end
end Go.Proofs.Ytdiclbejalelfaa
