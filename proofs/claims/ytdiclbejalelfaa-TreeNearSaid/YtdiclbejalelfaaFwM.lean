/- Functions as values; structs compared; maps of the call's own; copy; append to nothing. No condition. -/
import Derived.Test.YtdiclbejalelfaaFwL
import Derived.ChangeKeysEq
set_option linter.unusedVariables false
set_option linter.unusedSimpArgs false
namespace Go.Proofs.Ytdiclbejalelfaa
open Go.RowKit
open Rep (R)
open Go

section
variable {P : Program} {T : Tab} {lops l l' : List Oper} {Q : Exit → Act → World → Prop} {C : Ctx} {env env' : Env} {gv gv' : GV} {L L' : List Ent} {G G' : Ghost} {o : Oper}

/-! ### functions as values -/
/-- A function value answers as a Lean function. -/
def FnR {α β : Type} [Rep α] [Rep β] (P : Program) (G : Ghost) (f : α → Option β) (v : Value) : Prop :=
  ∃ g caps, v = .func (.func g) #[] caps ∧ Enters P g ∧ ∀ x y, f x = some y → ∀ G', GLe G G' → ∀ u, R G' x u → ∀ w, Holds G' w → Ret P g (u :: caps.toList) w G' (fun G'' r => R G'' y r)
theorem FnR.mono {α β : Type} [Rep α] [Rep β] {f : α → Option β} {v : Value} (hle : GLe G G') (h : FnR P G f v) : FnR P G' f v := by
  obtain ⟨g, caps, h1, h2, h3⟩ := h
  exact ⟨g, caps, h1, h2, fun x y hf G'' h4 => h3 x y hf G'' (hle.trans h4)⟩
def FnR2 {α β γ : Type} [Rep α] [Rep β] [Rep γ] (P : Program) (G : Ghost) (f : α → β → Option γ) (v : Value) : Prop :=
  ∃ g caps, v = .func (.func g) #[] caps ∧ Enters P g ∧ ∀ x x' y, f x x' = some y → ∀ G', GLe G G' → ∀ u u', R G' x u → R G' x' u' → ∀ w, Holds G' w → Ret P g (u :: u' :: caps.toList) w G' (fun G'' r => R G'' y r)
theorem FnR2.mono {α β γ : Type} [Rep α] [Rep β] [Rep γ] {f : α → β → Option γ} {v : Value} (hle : GLe G G') (h : FnR2 P G f v) : FnR2 P G' f v := by
  obtain ⟨g, caps, h1, h2, h3⟩ := h
  exact ⟨g, caps, h1, h2, fun x x' y hf G'' h4 => h3 x x' y hf G'' (hle.trans h4)⟩

theorem EL.callV {d : Nat} {x : Operand} {xs : Array Operand} {tys : Array TypeId} {g : FuncId} {caps : Array Value} {vs : List Value} {Φ : Ghost → Value → Prop} (hg : goes lops env o.guard = true) (hd : okDst C.n gv o.dst = some d)
    (ho : o.op = .call ⟨.value x, xs, tys⟩) (hx : ev env gv [] x = some (.v (.func (.func g) #[] caps))) (hv : plainAll (ev env gv []) xs.toList = some vs) (hen : Enters P g) (spec : ∀ w, Holds G w → Ret P g (vs ++ caps.toList) w G Φ)
    (k : ∀ v G', GLe G G' → Φ G' v → EL P lops Q C l ((d, some (.v v)) :: env) gv L G') : EL P lops Q C (o :: l) env gv L G := by
  intro hs a w S g0
  obtain ⟨h1, h2, h3⟩ := okDst_eq hd
  unfold wpList
  rw [if_pos (goes_wanted S hg)]
  have hargs : xs.map a.eval = vs.toArray := by rw [← plainAll_ev S g0 hv, ← Array.toList_map]
  have hf : a.eval x = .func (.func g) #[] caps := ev_v S g0 hx
  refine .inl ?_
  have hrun : (execOp a.eval o).run P w = .ok (.enter g (vs ++ caps.toList).toArray) w := by
    simp only [execOp, ho, resolve, hargs, hf, Deferred.ofValue, invoke, Sem.run_bind, Sem.run_pure, Result.andThen_ok, Array.empty_append]
    rw [hen.run]
    simp
  unfold Oper.wp
  rw [hrun, Oper.upon_enter]
  refine Calls.mono (spec w S.ok) ?_
  rintro e w' ⟨v, G', rfl, hext, hΦ⟩
  show wpList P lops.toArray Q l (a.put o.dst v) w'
  rw [h1]
  exact k v G' hext.le hΦ hs _ w' ((S.ext hext).put h2 (s := .v v) trivial) (g0.put h3 _)

/-! ### structs compared -/
def xorB (n b : Bool) : Bool := bif n then !b else b
theorem EL.eqS {d t s1 b1 : Nat} {op : BinOp} {t9 : TypeId} {x y : Operand} {xs ys : List Value} {z1 : List Value} {fs : List (Nat × Nat × TypeId)} {ts : List Nat} {r : Bool} (hT : TOk P T) (hst : ∀ t ∈ ts, P.stoodInHeld t = false) (hgt : P.eqGuardType P.depth t = false) (hg : goes lops env o.guard = true) (hd : okDst C.n gv o.dst = some d)
    (ho : o.op = .binOp op t x y t9) (hx : ev env gv [] x = some (.v (.agg xs.toArray))) (hy : ev env gv [] y = some (.v (.agg ys.toArray))) (ht : ti T t = some ⟨s1, b1, z1, .struct fs⟩) (hmem : memN t ts = true) (hr : eqL T ts 40 fs xs ys = some r) (n : Bool) (hop : op = bif n then .neq else .eql)
    (next : EL P lops Q C l ((d, some (.v (.bool (xorB n r)))) :: env) gv L G) : EL P lops Q C (o :: l) env gv L G := by
  refine EL.val (s := .v _) hg hd (fun hs a w S g => ⟨?_, trivial⟩) next
  obtain ⟨i', u', _, _, hu', _, _, _, _, hk'⟩ := ti_info hT ht
  obtain ⟨Gs, rfl, hgs, hgn⟩ := und_struct hk'
  have hfo : P.fieldsOf t = Gs := by simp [Program.fieldsOf, hu']
  have heq : (Op.equalIn 10000 t (.agg xs.toArray) (.agg ys.toArray)).run P w = .ok r w := by
    rw [run_equalIn_struct (P := P) w 9999 t _ _ (by rw [hfo]; exact hu') (hst _ (memN_mem hmem)), hfo]
    exact eqL_run hT hst 40 fs xs ys r hr Gs.toList hgs (fun f hf => (hgn f hf).1) 9999 (by omega) w
  simp only [execOp, ho, ev_v S g hx, ev_v S g hy, Sem.run_bind, SV.val, SV.cval]
  rw [run_eqGuard_agg (P := P) w op t x y _ _ hgt]
  simp only [Result.andThen_ok]
  cases n with
  | false => simp only [hop, cond_false, run_eql_struct, heq, Result.andThen_ok, Sem.run_pure, xorB]
  | true => simp only [hop, cond_true, run_neq_struct, heq, Result.andThen_ok, Sem.run_pure, xorB]

/-- Arrays of two numbers, compared. -/
theorem EL.eqA {d t e s1 b1 s2 b2 : Nat} {op : BinOp} {t9 : TypeId} {x y : Operand} {a0 a1 c0 c1 : Int} {z1 z2 : List Value} {k : IntKind} (hT : TOk P T) (hgt : P.eqGuardType P.depth t = false) (hg : goes lops env o.guard = true) (hd : okDst C.n gv o.dst = some d)
    (ho : o.op = .binOp op t x y t9) (hx : ev env gv [] x = some (.v (.agg #[.int k a0, .int k a1]))) (hy : ev env gv [] y = some (.v (.agg #[.int k c0, .int k c1]))) (ht : ti T t = some ⟨s1, b1, z1, .arr 2 e⟩) (hte : ti T e = some ⟨s2, b2, z2, .int k⟩) (hs2 : s2 = 1) (n : Bool) (hop : op = bif n then .neq else .eql)
    (next : EL P lops Q C l ((d, some (.v (.bool (xorB n (a0 == c0 && (a1 == c1 && true)))))) :: env) gv L G) : EL P lops Q C (o :: l) env gv L G := by
  refine EL.val (s := .v _) hg hd (fun hs a w S g => ⟨?_, trivial⟩) next
  obtain ⟨i', u', _, _, hu', _, _, _, _, hk'⟩ := ti_info hT ht
  obtain rfl := und_arr hk'
  obtain ⟨ie, ue, _, hie, hue, _, hse, _, _, hke⟩ := ti_info hT hte
  obtain rfl := und_int hke
  have hcell : P.cellsOf e = 1 := by rw [ti_cells hT hte]; exact hs2
  have heq : (Op.equalIn 10000 t (.agg #[.int k a0, .int k a1]) (.agg #[.int k c0, .int k c1])).run P w = .ok (a0 == c0 && (a1 == c1 && true)) w := by
    rw [show (10000 : Nat) = 9998 + 1 + 1 from rfl, run_equalIn_array w (9998 + 1) _ _ hu' hie, hcell]
    show (Op.eqItems (9998 + 1) e 1 _ _ [0, 1]).run P w = _
    have p0 : ∀ u v : Value, (part e #[u, v] (0 * 1)).run P w = .ok u w := fun u v => run_part_one (cs := [u, v]) hT hte rfl (by simp) rfl w
    have p1 : ∀ u v : Value, (part e #[u, v] 1).run P w = .ok v w := fun u v => run_part_one (cs := [u, v]) hT hte rfl (by simp) rfl w
    have he : ∀ u v : Int, (Op.equalIn 9999 e (.int k u) (.int k v)).run P w = .ok (u == v) w := fun u v => run_equalIn_int w 9998 e k k u v hue
    simp only [Op.eqItems, Sem.run_bind, p0, Result.andThen_ok, he, Nat.one_mul, p1, Nat.reduceAdd]
    have hb : ∀ b : Bool, (if b = false then (Result.ok false w : Result Bool) else Result.ok true w) = .ok b w := fun b => by cases b <;> rfl
    cases h0 : a0 == c0 <;> simp [p1, he]
    simpa using hb (a1 == c1)
  simp only [execOp, ho, ev_v S g hx, ev_v S g hy, Sem.run_bind, SV.val, SV.cval]
  rw [run_eqGuard_agg (P := P) w op t x y _ _ hgt]
  simp only [Result.andThen_ok]
  cases n with
  | false => simp only [hop, cond_false, run_eql_struct, heq, Result.andThen_ok, Sem.run_pure, xorB]
  | true => simp only [hop, cond_true, run_neq_struct, heq, Result.andThen_ok, Sem.run_pure, xorB]

/-! ### maps of the call's own, keyed by numbers -/
/-- What a map holds, keyed by numbers. -/
def mE {β : Type} (enc : β → Value) (m : List (Int × β)) : List (Value × Value) := m.map fun p => (.int .i64 p.1, enc p.2)
def mget {β : Type} : List (Int × β) → Int → Option β
  | [], _ => none
  | p :: m, k => bif p.1 == k then some p.2 else mget m k
def mset {β : Type} : List (Int × β) → Int → β → List (Int × β)
  | [], k, v => [(k, v)]
  | p :: m, k, v => bif p.1 == k then (k, v) :: m else p :: mset m k v
def mpos {β : Type} : List (Int × β) → Int → Nat → Option (Nat × β)
  | [], _, _ => none
  | p :: m, k, i => bif p.1 == k then some (i, p.2) else mpos m k (i + 1)
theorem mpos_get {β : Type} (m : List (Int × β)) (k : Int) : ∀ i, (mpos m k i).map (·.2) = mget m k := by
  induction m with
  | nil => intro i; rfl
  | cons p m ih => intro i; simp only [mpos, mget]; cases (p.1 == k) <;> simp [ih]
theorem mpos_ge {β : Type} (m : List (Int × β)) (k : Int) : ∀ i j v, mpos m k i = some (j, v) → i ≤ j ∧ j - i < m.length ∧ (m[j - i]?.map (·.1)) = some k ∧ mset m k = fun u => m.set (j - i) (k, u) := by
  induction m with
  | nil => intro i j v h; simp [mpos] at h
  | cons p m ih =>
    intro i j v h
    simp only [mpos] at h
    cases hb : (p.1 == k) with
    | true =>
      rw [hb] at h
      simp at h
      obtain ⟨rfl, rfl⟩ := h
      refine ⟨Nat.le_refl _, by simp, by simpa using hb, ?_⟩
      funext u; simp [mset, hb]
    | false =>
      rw [hb] at h
      simp only [cond_false] at h
      obtain ⟨h1, h2, h3, h4⟩ := ih (i + 1) j v h
      obtain ⟨q, rfl⟩ : ∃ q, j = i + 1 + q := ⟨j - (i + 1), by omega⟩
      have e1 : i + 1 + q - i = q + 1 := by omega
      have e2 : i + 1 + q - (i + 1) = q := by omega
      rw [e2] at h2 h3 h4
      rw [e1]
      refine ⟨by omega, by simp; omega, by simpa using h3, ?_⟩
      funext u; simp [mset, hb, h4]
theorem mpos_none {β : Type} (m : List (Int × β)) (k : Int) : ∀ i, mpos m k i = none → mset m k = fun u => m ++ [(k, u)] := by
  induction m with
  | nil => intro i _; rfl
  | cons p m ih =>
    intro i h
    simp only [mpos] at h
    cases hb : (p.1 == k) with
    | true => rw [hb] at h; simp at h
    | false =>
      rw [hb] at h
      simp only [cond_false] at h
      funext u; simp [mset, hb, ih _ h]

theorem findNow_mE {β : Type} {enc : β → Value} {k : Int} : ∀ (es : List MapEntry) (m : List (Int × β)) (i : Nat), es.map (fun e => (e.key, e.val)) = mE enc m → Instr.findNow (.int .i64) (.int .i64 k) es i = some ((mpos m k i).map fun p => (p.1, enc p.2)) := by
  intro es
  induction es with
  | nil => intro m i h; cases m with
    | nil => rfl
    | cons p m => simp [mE] at h
  | cons e es ih =>
    intro m i h
    cases m with
    | nil => simp [mE] at h
    | cons p m =>
      simp only [mE, List.map_cons, List.cons.injEq, Prod.mk.injEq] at h
      obtain ⟨⟨h1, h2⟩, h3⟩ := h
      simp only [Instr.findNow, h1, Instr.sameNow, mpos]
      have hc : (k == p.1) = (p.1 == k) := by rw [Bool.eq_iff_iff, beq_iff_eq, beq_iff_eq]; exact ⟨Eq.symm, Eq.symm⟩
      simp only [if_true, hc]
      cases (p.1 == k) with
      | true => simp [h2]
      | false => simp only [cond_false]; exact ih m (i + 1) h3

theorem EL.makeMap {d t : Nat} (hg : goes lops env o.guard = true) (hd : okDst C.n gv o.dst = some d) (ho : o.op = .makeMap t none)
    (next : EL P lops Q C l ((d, some (.mp (len' L))) :: env) gv (app L (.mp [])) G) : EL P lops Q C (o :: l) env gv L G := by
  intro hs a w S g
  obtain ⟨hd1, hd2, hd3⟩ := okDst_eq hd
  unfold wpList
  rw [if_pos (goes_wanted S hg)]
  refine .inl ?_
  have hex : (execOp a.eval o).run P w = .ok (.value (.map (some w.heap.size))) (w.alloc (.map #[] 0)) := by
    simp only [execOp, ho, Option.map_none, Instr.makeMap, Sem.run_bind, Sem.run_pure, run_newObj, Result.andThen_ok]
    rfl
  unfold Oper.wp
  rw [hex, Oper.upon_value, hd1]
  have S' := S.alloc (.map #[] 0) (.mp []) (.map (some w.heap.size)) trivial ⟨#[], 0, heap_alloc_new w _, rfl⟩ (fun k hk => by simp [Ent.at_] at hk; exact hk.symm)
  have S2 := S'.put hd2 (s := .mp L.length) (by simp [SV.lt, SV.clt])
  have nx := next
  rw [len'_eq, app_eq] at nx
  refine nx _ _ _ ?_ ((g.move (L' := L ++ [_]) (hs' := fun r => if r = L.length then ⟨w.heap.size, .map (some w.heap.size)⟩ else hs r) (by simp) (fun r hr => by simp [Nat.ne_of_lt hr])).put hd3 _)
  simpa [SV.val, SV.cval] using S2

theorem ev_mp {hs : Nat → Hd} {a : Act} {w : World} (S : Sim C env L G hs a w) (g : GOk C gv L hs a) {x : Operand} {r : Nat} (h : ev env gv [] x = some (.mp r)) : a.eval x = .map (some (hs r).blk) :=
  (ev_val S g (fun _ h => absurd h (by simp)) h).1

theorem EL.lookup {β : Type} {enc : β → Value} {m : List (Int × β)} {z0 : β} {d t r kt e s1 b1 s2 b2 : Nat} {x ix : Operand} {i : Int} {z1 : List Value} {z2 : List Value} (hT : TOk P T) (hg : goes lops env o.guard = true) (hd : okDst C.n gv o.dst = some d)
    (ho : o.op = .lookup t x ix false) (hx : ev env gv [] x = some (.mp r)) (hi : ev env gv [] ix = some (.v (.int .i64 i))) (hr : nth L r = some (.mp (mE enc m))) (ht : ti T t = some ⟨s1, b1, z1, .map kt e⟩) (htk : ti T kt = some ⟨s2, b2, z2, .int .i64⟩)
    (hz : ∀ w, (zeroValue e).run P w = .ok (enc z0) w)
    (next : EL P lops Q C l ((d, some (.v (enc ((mget m i).getD z0)))) :: env) gv L G) : EL P lops Q C (o :: l) env gv L G := by
  refine EL.val (s := .v _) hg hd (fun hs a w S g => ⟨?_, trivial⟩) next
  rw [nth_eq] at hr
  obtain ⟨es, clock, hb, hkv⟩ := (S.holds r _ hr).1
  obtain ⟨ud, hk, hru⟩ := run_und hT ht w
  obtain rfl := und_map hk
  obtain ⟨i', u', _, _, hu', _, _, _, _, hk'⟩ := ti_info hT htk
  obtain rfl := und_int hk'
  have hf := findNow_mE (k := i) es.toList m 0 hkv
  simp only [execOp, ho, ev_mp S g hx, ev_v S g hi, Instr.lookup, Sem.run_bind, hru, Result.andThen_ok, MapKept.run_getObj_map hb, Sem.run_pure, MapKept.run_checkKey (P := P) (w := w) hu' (k := .int .i64 i) rfl _ 9999, MapKept.run_findKey hu' hf]
  rw [← mpos_get m i 0]
  cases mpos m i 0 with
  | none => simp [hz, SV.val, SV.cval]
  | some p => simp [SV.val, SV.cval]
theorem EL.mlen {d t r s1 b1 kt e : Nat} {t9 : Array TypeId} {x : Operand} {kvs : List (Value × Value)} {z1 : List Value} (hT : TOk P T) (hg : goes lops env o.guard = true) (hd : okDst C.n gv o.dst = some d)
    (ho : o.op = .call ⟨.builtin .len, #[x], t9⟩) (h9 : t9.toList = [t]) (hx : ev env gv [] x = some (.mp r)) (hr : nth L r = some (.mp kvs)) (ht : ti T t = some ⟨s1, b1, z1, .map kt e⟩)
    (next : EL P lops Q C l ((d, some (.v (.int .i64 kvs.length))) :: env) gv L G) : EL P lops Q C (o :: l) env gv L G := by
  refine EL.val (s := .v _) hg hd (fun hs a w S g => ⟨?_, trivial⟩) next
  rw [nth_eq] at hr
  obtain ⟨es, clock, hb, hkv⟩ := (S.holds r _ hr).1
  obtain ⟨ud, hk, hru⟩ := run_und hT ht w
  obtain rfl := und_map hk
  have h8 : t9 = #[t] := Array.toList_inj.1 h9
  subst h8
  have hlen : es.size = kvs.length := by rw [← hkv]; simp
  simp [execOp, ho, resolve, invoke, builtin, ev_mp S g hx, Builtin.len_, hru, MapKept.run_getObj_map hb, SV.val, SV.cval, goInt, hlen]

theorem EL.mapUpdate {β : Type} {enc : β → Value} {m : List (Int × β)} {u : β} {t r kt e s1 b1 s2 b2 : Nat} {x ix y : Operand} {i : Int} {v : Value} {z1 z2 : List Value} (hT : TOk P T) (hg : goes lops env o.guard = true) (hd : o.dst = none)
    (ho : o.op = .mapUpdate t x ix y) (hx : ev env gv [] x = some (.mp r)) (hi : ev env gv [] ix = some (.v (.int .i64 i))) (hy : plainOf (ev env gv []) y = some v) (hv : v = enc u) (hr : nth L r = some (.mp (mE enc m))) (ht : ti T t = some ⟨s1, b1, z1, .map kt e⟩) (htk : ti T kt = some ⟨s2, b2, z2, .int .i64⟩)
    (next : EL P lops Q C l env gv (setL L r (.mp (mE enc (mset m i u)))) G) : EL P lops Q C (o :: l) env gv L G := by
  intro hs a w S g
  have hyv : a.eval y = v := plainOf_val (ρ := a.eval) (hs := hs) (m := L.length) (fun x s hx => ev_val S g (fun _ h => absurd h (by simp)) hx) hy
  rw [nth_eq] at hr
  obtain ⟨es, clock, hb, hkv⟩ := (S.holds r _ hr).1
  obtain ⟨ud, hk, hru⟩ := run_und hT ht w
  obtain rfl := und_map hk
  obtain ⟨i', u', _, _, hu', _, _, _, _, hk'⟩ := ti_info hT htk
  obtain rfl := und_int hk'
  have hf := findNow_mE (k := i) es.toList m 0 hkv
  subst hv
  have hlb : (hs r).blk < w.heap.size := (Array.getElem?_eq_some_iff.1 hb).1
  obtain ⟨es', clock', hrun, hkv'⟩ : ∃ (es' : Array MapEntry) (clock' : Nat), (execOp a.eval o).run P w = .ok .skip { w with heap := w.heap.setIfInBounds (hs r).blk (.map es' clock') } ∧ es'.toList.map (fun e => (e.key, e.val)) = mE enc (mset m i u) := by
    cases hp : mpos m i 0 with
    | none =>
      rw [hp] at hf
      refine ⟨es.push { key := .int .i64 i, val := enc u, born := clock }, clock + 1, ?_, ?_⟩
      · simp only [execOp, ho, ev_mp S g hx, ev_v S g hi, hyv, Instr.mapUpdate, Sem.run_bind, hru, Result.andThen_ok, MapKept.run_getObj_map hb, Sem.run_pure, MapKept.run_checkKey (P := P) (w := w) hu' (k := .int .i64 i) rfl _ 9999, MapKept.run_findKey hu' hf, Option.map_none, MapKept.run_setObj_map _ hb]
      · rw [mpos_none m i 0 hp, Array.toList_push, List.map_append, hkv]
        simp [mE]
    | some p =>
      obtain ⟨j, v0⟩ := p
      rw [hp] at hf
      obtain ⟨h1, h2, h3, h4⟩ := mpos_ge m i 0 j v0 hp
      rw [Nat.sub_zero] at h2 h3 h4
      have hlen : es.toList.length = m.length := by have := congrArg List.length hkv; simpa [mE] using this
      have hj : j < es.size := by rw [← Array.length_toList, hlen]; exact h2
      have hkey : (es[j]?.map (·.key)) = some (.int .i64 i) := by
        have h5 : (es.toList.map (fun e => (e.key, e.val)))[j]? = (mE enc m)[j]? := by rw [hkv]
        simp only [mE, List.getElem?_map, Array.getElem?_toList] at h5
        cases hm : m[j]? with
        | none => rw [hm] at h3; simp at h3
        | some q =>
          rw [hm] at h3 h5
          simp at h3
          cases he : es[j]? with
          | none => rw [he] at h5; simp at h5
          | some ent => rw [he] at h5; simp at h5; simp [h5.1, h3]
      refine ⟨es.modify j fun e => { e with key := .int .i64 i, val := enc u }, clock, ?_, ?_⟩
      · simp only [execOp, ho, ev_mp S g hx, ev_v S g hi, hyv, Instr.mapUpdate, Sem.run_bind, hru, Result.andThen_ok, MapKept.run_getObj_map hb, Sem.run_pure, MapKept.run_checkKey (P := P) (w := w) hu' (k := .int .i64 i) rfl _ 9999, MapKept.run_findKey hu' hf, Option.map_some, hkey, Option.getD_some]
        have hkt : (Instr.keyThatStays (.int .i64 i) (.int .i64 i)).run P w = .ok (.int .i64 i) w := by
          have hsb : Instr.sameBits 10000 (.int .i64 i) (.int .i64 i) = true := by
            show (IntKind.i64 == IntKind.i64 && i == i) = true
            simp
          unfold Instr.keyThatStays
          rw [if_pos hsb]; rfl
        simp only [hkt, Result.andThen_ok, MapKept.run_setObj_map _ hb, Sem.run_pure]
      · rw [h4]
        refine List.ext_getElem? fun q => ?_
        simp only [mE, List.getElem?_map, Array.getElem?_toList, Array.getElem?_modify, List.getElem?_set]
        have h5 : (es.toList.map (fun e => (e.key, e.val)))[q]? = (mE enc m)[q]? := by rw [hkv]
        simp only [mE, List.getElem?_map, Array.getElem?_toList] at h5
        by_cases hq : j = q
        · subst hq
          simp [h2, Array.getElem?_eq_getElem hj]
        · simp [hq, h5]
  obtain ⟨hs1, hs2⟩ := MapKept.heap_set (o' := .map es' clock') hb
  have hfun : (fun q => if q = r then hs r else hs q) = hs := by funext q; split <;> simp_all
  have S' := S.turn (w' := { w with heap := w.heap.setIfInBounds (hs r).blk (.map es' clock') }) (e' := .mp (mE enc (mset m i u))) (hv := hs r) hr
    (fun k hk hne => hs2 k (fun h => hne (by rw [h]; rfl))) rfl rfl rfl (by simp) ⟨es', clock', hs1, hkv'⟩ trivial (fun k hk => .inl hk)
    (fun t s _ => by rw [hfun]) (fun q f _ _ => Ent.sees_eq hfun f)
  rw [hfun] at S'
  unfold wpList
  rw [if_pos (goes_wanted S hg)]
  refine .inl ?_
  unfold Oper.wp
  rw [hrun, Oper.upon_skip, hd]
  have nx := next
  rw [setL_eq] at nx
  exact nx hs _ _ S' (g.move (by simp) (fun _ _ => rfl))
end
end Go.Proofs.Ytdiclbejalelfaa
