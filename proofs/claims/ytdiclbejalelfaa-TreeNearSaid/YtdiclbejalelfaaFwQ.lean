/- Rows that are lent to a call: read by it, or turned by it. No condition. -/
import Derived.Test.YtdiclbejalelfaaFwP
set_option linter.unusedVariables false
set_option linter.unusedSimpArgs false
namespace Go.Proofs.Ytdiclbejalelfaa
open Go.RowKit
open Rep (R)

section
variable {P : Program} {T : Tab} {lops l l' : List Oper} {Q : Exit → Act → World → Prop} {C : Ctx} {env env' : Env} {gv gv' : GV} {L L' : List Ent} {G G' : Ghost} {o : Oper}

/-- Arguments, a row lent among them. -/
def lentArgs (r : Nat) (v : Value) : List SV → Option (List Value)
  | [] => some []
  | .row q :: l => match Nat.beq q r, lentArgs r v l with
    | true, some vs => some (v :: vs)
    | _, _ => none
  | s :: l => match s.plain, lentArgs r v l with
    | some x, some vs => some (x :: vs)
    | _, _ => none
theorem lentArgs_val {r : Nat} {v : Value} {hs : Nat → Hd} (hv : (hs r).val = v) {ss : List SV} {vs : List Value} (h : lentArgs r v ss = some vs) : svals hs ss = vs := by
  induction ss generalizing vs with
  | nil => simp [lentArgs] at h; simp [svals, h]
  | cons s l ih =>
    unfold lentArgs at h
    split at h
    · rename_i h1; simp at h1
    · rename_i q l' h1
      obtain ⟨rfl, rfl⟩ := List.cons.inj h1
      split at h
      · rename_i vs' hb hl
        obtain rfl := Nat.eq_of_beq_eq_true hb
        obtain rfl := Option.some.inj h
        show (hs q).val :: svals hs l = _
        rw [hv, ih hl]
      · simp at h
    · rename_i s' l' _ h1
      obtain ⟨rfl, rfl⟩ := List.cons.inj h1
      split at h
      · rename_i x vs' hp hl
        obtain rfl := Option.some.inj h
        show s.val hs :: svals hs l = _
        rw [SV.plain_val hp hs, ih hl]
      · simp at h
/-- A call that only reads a row of the call's own, and hands back something plain. -/
theorem EL.callS {α : Type} [Rep α] {xs : List α} {d f r e sz n : Nat} {es : List Value} {xo : Array Operand} {tys : Array TypeId} {u : Value} {ss : List SV} {va : Option Addr → Nat → List Value} {Φ : Ghost → Value → Prop} (hes : Els G xs es) (hsz : Rep.sz α = sz) (hg : goes lops env o.guard = true) (hd : okDst C.n gv o.dst = some d)
    (ho : o.op = .call ⟨.value (.func f), xo, tys⟩) (hx : sAll (ev env gv []) xo.toList = some ss) (hva : ∀ A c, lentArgs r (.slice A xs.length c) ss = some (va A c)) (hr : nth L r = some (.row e sz n es)) (hen : Enters P f)
    (spec : ∀ w A c G1, GLe G G1 → R G1 xs (.slice A xs.length c) → Holds G1 w → Ret P f (va A c) w G1 Φ) (hu : ∀ G1 v, Φ G1 v → v = u)
    (k : EL P lops Q C l ((d, some (.v u)) :: env) gv L G) : EL P lops Q C (o :: l) env gv L G := by
  intro hs a w S g
  obtain ⟨h1, h2, h3⟩ := okDst_eq hd
  have hr' := hr
  rw [nth_eq] at hr'
  obtain ⟨G1, hle, hR, S1⟩ := S.pubRow hr' hes hsz
  obtain ⟨A, c, hv, hR'⟩ := Sl.open hR
  unfold wpList
  rw [if_pos (goes_wanted S hg)]
  have hev : ∀ x s, ev env gv [] x = some s → a.eval x = s.val hs ∧ s.lt L.length := fun x s hx => ev_val S g (fun _ h => absurd h (by simp)) hx
  obtain ⟨ha1, _⟩ := sAll_val hev hx
  have ha2 := lentArgs_val hv (hva A c)
  refine .inl ?_
  have hargs : xo.map a.eval = (va A c).toArray := by rw [← ha2, ← ha1, ← Array.toList_map]
  have hrun : (execOp a.eval o).run P w = .ok (.enter f (va A c).toArray) w := by
    simp only [execOp, ho, resolve, hargs, Act.eval, Deferred.ofValue, invoke, Sem.run_bind, Sem.run_pure, Result.andThen_ok, Array.empty_append, Array.append_empty]
    rw [hen.run]
  unfold Oper.wp
  rw [hrun, Oper.upon_enter]
  rw [hv] at hR
  refine Calls.mono (spec w A c G1 hle hR' S1.ok) ?_
  rintro ev w' ⟨v, G', rfl, hext, hΦ⟩
  obtain rfl := hu _ _ hΦ
  show wpList P lops.toArray Q l (a.put o.dst v) w'
  rw [h1]
  exact k hs _ w' ((S.grow hext.below).put h2 (s := .v v) trivial) (g.put h3 _)

theorem slc_pre {α : Type} {xs ys : List α} {i : Int} (h : slc xs 0 i = some ys) : 0 ≤ i ∧ i ≤ xs.length ∧ ys = xs.take i.toNat := by
  unfold slc at h
  split at h
  · rename_i h0
    refine ⟨h0.2.1, h0.2.2, ?_⟩
    rw [← Option.some.inj h]; rfl
  · simp at h

/-- The first elements of a row: the row, shorter. -/
theorem EL.rowPrefix {α : Type} [Rep α] {xs ys : List α} {i : Int} {d t r e sz n s1 b1 b2 : Nat} {x yo : Operand} {k : IntKind} {es : List Value} {z1 z2 : List Value} {kd : TK} (hp : slc xs 0 i = some ys) (hes : Els G xs es) (hT : TOk P T) (hg : goes lops env o.guard = true) (hd : okDst C.n gv o.dst = some d) (hng : noG gv = true)
    (ho : o.op = .slice t x none (some yo) none) (hx : ev env gv [] x = some (.row r)) (hy : ev env gv [] yo = some (.v (.int k i))) (hr : nth L r = some (.row e sz n es)) (ht : ti T t = some ⟨s1, b1, z1, .slice e⟩) (hte : ti T e = some ⟨sz, b2, z2, kd⟩)
    (next : ∀ blk val, Els G ys (es.take i.toNat) → EL P lops Q C l ((d, some (.row r)) :: killE r blk val env) gv (setL (killR r blk val L) r (.row e sz ys.length (es.take i.toNat))) G) : EL P lops Q C (o :: l) env gv L G := by
  intro hs a w S g
  obtain ⟨hd1, hd2, hd3⟩ := okDst_eq hd
  rw [nth_eq] at hr
  have hlt : r < L.length := (List.getElem?_eq_some_iff.1 hr).1
  obtain ⟨k1, k2, k3, k4, k5⟩ := (S.holds r _ hr).1
  obtain ⟨h0, h1, hys⟩ := slc_pre hp
  have hlen : xs.length = n := by rw [← k1, hes.len]
  have hyl : ys.length = i.toNat := by rw [hys, List.length_take]; omega
  have hels : Els G ys (es.take i.toNat) := by rw [hys]; exact All2.take hes _
  obtain ⟨ud, hk, hru⟩ := run_und hT ht w
  obtain rfl := und_slice hk
  have hxv := ev_row S g hx
  have hyv := ev_v S g hy
  obtain ⟨v', hex, hown, hat⟩ : ∃ v', (execOp a.eval o).run P w = .ok (.value v') w ∧ w.ownsRow 0 e sz v' ys.length (flat (es.take i.toNat)) ∧ v'.ownBlock = (hs r).val.ownBlock := by
    rcases k4.2 with ⟨k6, k7⟩ | ⟨gq, cap, cur, k6, k8, k9, k10, k11, k12, k13⟩
    · have hi0 : i = 0 := by omega
      subst hi0
      refine ⟨.slice none 0 0, ?_, ?_, by rw [k6]⟩
      · simp [execOp, ho, hxv, hyv, k6, Instr.sliceAt, hru, Instr.slice, Instr.sliceBounds, Instr.sliceBound, asIntOf, run_size hT hte]
      · rw [hyl]; simpa [flat] using World.ownsRow_nil w 0 e sz
    · refine ⟨.slice (some ⟨gq, 0, none⟩) ys.length cap, ?_, ?_, by rw [k6]; rfl⟩
      · have hb : (Instr.sliceBound (.int k i) cap .sliceAcap).run P w = .ok i.toNat w := by
          simp only [Instr.sliceBound, asIntOf, Sem.run_bind, Sem.run_pure, Result.andThen_ok]
          rw [if_pos ⟨h0, by omega⟩]; rfl
        simp only [execOp, ho, hxv, hyv, k6, Option.map_none, Option.map_some, Instr.sliceAt, Sem.run_bind, hru, Result.andThen_ok, Instr.slice, Instr.sliceBounds, Sem.run_pure, if_true, hb, run_size hT hte, Nat.sub_zero, Nat.zero_mul, add_none, Nat.add_zero, Option.map_some, hyl]
        split <;> rfl
      · refine ⟨by rw [flat_len (sz := sz) _ (fun u hu => k2 u (List.mem_of_mem_take hu)), List.length_take, hyl]; congr 1; omega, .inr ⟨gq, cap, cur, rfl, k8, k9, by omega, k11, k12, ?_⟩⟩
        rw [flat_take k2, ← k13, List.take_take, hyl]
        congr 1
        exact (Nat.min_eq_left (Nat.mul_le_mul_right _ (by omega))).symm
  have S' := S.turnKill (w' := w) (e' := .row e sz ys.length (es.take i.toNat)) (hv := ⟨(hs r).blk, v'⟩) hr rfl trivial (fun _ _ _ => rfl) rfl rfl rfl (Nat.le_refl _)
    (fun hs' => ⟨by rw [List.length_take, hyl]; omega, fun u hu => k2 u (List.mem_of_mem_take hu), fun u hu => k3 u (List.mem_of_mem_take hu), hown, fun k hk => by rw [hat] at hk; exact k5 k hk⟩)
    (fun k hk => .inl (by show (hs r).val.ownBlock = some k; rw [← hat]; exact hk))
  unfold wpList
  rw [if_pos (goes_wanted S hg)]
  refine .inl ?_
  unfold Oper.wp
  rw [hex, Oper.upon_value, hd1]
  have S2 := S'.put hd2 (s := .row r) (by show r < _; rw [List.length_set, killR_len]; exact hlt)
  simp only [SV.val, SV.cval, if_pos] at S2
  have nx := next (hs r).blk (hs r).val hels (fun q => if q = r then ⟨(hs r).blk, v'⟩ else hs q) (a.put (some d) v') w
  rw [setL_eq] at nx
  exact nx S2 ((g.put hd3 v').any hng)

/-- The rest of a row is cleared. -/
theorem EL.clearTail {α : Type} [Rep α] {xs : List α} {z0 : α} {i : Int} {d t t2 r e sz n s1 b1 b2 : Nat} {o2 : Oper} {x yo : Operand} {k : IntKind} {es : List Value} {z1 : List Value} {z : Value} {kd : TK} (h0 : 0 ≤ i) (h1 : i ≤ xs.length) (hes : Els G xs es) (hz0 : R G z0 z) (hT : TOk P T) (hg : goes lops env o.guard = true) (hg2 : o2.guard = none) (hd : okDst C.n gv o.dst = some d) (hd2 : o2.dst = none)
    (ho : o.op = .slice t x (some yo) none none) (ho2 : o2.op = .call ⟨.builtin .clear, #[.tmp d], #[t2]⟩) (hx : ev env gv [] x = some (.row r)) (hy : ev env gv [] yo = some (.v (.int k i))) (hr : nth L r = some (.row e sz n es)) (ht : ti T t = some ⟨s1, b1, z1, .slice e⟩) (ht2 : ti T t2 = some ⟨s1, b1, z1, .slice e⟩) (hte : ti T e = some ⟨sz, b2, z.cells.toList, kd⟩) (hsz : Rep.sz α = sz)
    (next : ∀ es', Els G (xs.take i.toNat ++ List.replicate (xs.length - i.toNat) z0) es' → EL P lops Q C l ((d, none) :: env) gv (setL L r (.row e sz n es')) G) : EL P lops Q C (o :: o2 :: l) env gv L G := by
  intro hs a w S g
  obtain ⟨hd1, hdl, hd3⟩ := okDst_eq hd
  rw [nth_eq] at hr
  have hlt : r < L.length := (List.getElem?_eq_some_iff.1 hr).1
  obtain ⟨k1, k2, k3, k4, k5⟩ := (S.holds r _ hr).1
  have hlen : xs.length = n := by rw [← k1, hes.len]
  have hzs : z.cells.size = sz := (Rep.size hz0).trans hsz
  have hrep : Els G (List.replicate (xs.length - i.toNat) z0) (List.replicate (xs.length - i.toNat) z) := by
    generalize xs.length - i.toNat = q
    induction q with
    | zero => exact .nil
    | succ q ih => exact .cons hz0 ih
  have hels : Els G (xs.take i.toNat ++ List.replicate (xs.length - i.toNat) z0) (es.take i.toNat ++ List.replicate (xs.length - i.toNat) z) := (All2.take hes _).app hrep
  obtain ⟨ud, hk, hru⟩ := run_und hT ht w
  obtain rfl := und_slice hk
  have hxv := ev_row S g hx
  have hyv := ev_v S g hy
  have hsz2 : ∀ u ∈ es.take i.toNat ++ List.replicate (xs.length - i.toNat) z, u.cells.size = sz := fun u hu => by
    rcases List.mem_append.1 hu with hu | hu
    · exact k2 u (List.mem_of_mem_take hu)
    · rw [(List.mem_replicate.1 hu).2]; exact hzs
  have hone2 : ∀ u ∈ es.take i.toNat ++ List.replicate (xs.length - i.toNat) z, ∀ c ∈ u.cells, c.oneCell' = true := fun u hu => by
    rcases List.mem_append.1 hu with hu | hu
    · exact k3 u (List.mem_of_mem_take hu)
    · rw [(List.mem_replicate.1 hu).2]; exact Rep.one hz0
  have hlen2 : (es.take i.toNat ++ List.replicate (xs.length - i.toNat) z).length = n := by rw [List.length_append, List.length_take, List.length_replicate]; omega
  have hfun : (fun q => if q = r then hs r else hs q) = hs := by funext q; split <;> simp_all
  -- the value of the first operation, and what the second does
  obtain ⟨v', hex, w', hcl, S'⟩ : ∃ v', (execOp a.eval o).run P w = .ok (.value v') w ∧ ∃ w', (Builtin.clear_ #[t2] o2.type #[v']).run P w = .ok (.tuple #[]) w' ∧ Sim C env (L.set r (.row e sz n (es.take i.toNat ++ List.replicate (xs.length - i.toNat) z))) G hs a w' := by
    obtain ⟨ud2, hk2, hru2⟩ := run_und hT ht2 w
    obtain rfl := und_slice hk2
    rcases k4.2 with ⟨k6, k7⟩ | ⟨gq, cap, cur, k6, k8, k9, k10, k11, k12, k13⟩
    · have hn0 : n = 0 := k7
      have hi0 : i = 0 := by omega
      subst hi0
      have he0 : es = [] := List.eq_nil_of_length_eq_zero (by omega)
      have hsame : es.take (0 : Int).toNat ++ List.replicate (xs.length - (0 : Int).toNat) z = es := by
        rw [he0, hlen, hn0]; rfl
      refine ⟨.slice none 0 0, ?_, w, ?_, ?_⟩
      · simp [execOp, ho, hxv, hyv, k6, Instr.sliceAt, hru, Instr.slice, Instr.sliceBounds, Instr.sliceBound, asIntOf, run_size hT hte]
      · simp [Builtin.clear_, hru2]
      · rw [hsame]
        have : L.set r (Ent.row e sz n es) = L := by
          refine List.ext_getElem? fun q => ?_
          rw [List.getElem?_set]
          split
          · rename_i hq; subst hq; exact hr.symm
          · rfl
        rw [this]; exact S
    · have hb : (Instr.sliceBound (.int k i) n .sliceB).run P w = .ok i.toNat w := by
        simp only [Instr.sliceBound, asIntOf, Sem.run_bind, Sem.run_pure, Result.andThen_ok]
        rw [if_pos ⟨h0, by omega⟩]; rfl
      have hsl : (execOp a.eval o).run P w = .ok (.value (.slice (if cap = i.toNat then some ⟨gq, 0, none⟩ else some ((⟨gq, 0, none⟩ : Addr).add (i.toNat * sz))) (n - i.toNat) (cap - i.toNat))) w := by
        simp only [execOp, ho, hxv, hyv, k6, Option.map_none, Option.map_some, Instr.sliceAt, Sem.run_bind, hru, Result.andThen_ok, Instr.slice, Instr.sliceBounds, Sem.run_pure, if_false, hb, run_size hT hte, Option.isSome_none, Bool.false_eq_true]
      rcases Nat.eq_or_lt_of_le (show i.toNat ≤ n by omega) with hie | hil
      · have hsame : es.take i.toNat ++ List.replicate (xs.length - i.toNat) z = es := by
          rw [hlen, hie, Nat.sub_self, List.replicate_zero, List.append_nil, List.take_of_length_le (by omega)]
        refine ⟨_, hsl, w, ?_, ?_⟩
        · rw [hie, Nat.sub_self]
          have hz : ∀ A c, (Builtin.clear_ #[t2] o2.type #[Value.slice A 0 c]).run P w = .ok (.tuple #[]) w := fun A c => by
            cases A <;> simp [Builtin.clear_, hru2]
          exact hz _ _
        · rw [hsame]
          have : L.set r (Ent.row e sz n es) = L := by
            refine List.ext_getElem? fun q => ?_
            rw [List.getElem?_set]
            split
            · rename_i hq; subst hq; exact hr.symm
            · rfl
          rw [this]; exact S
      · have hbq : gq = (hs r).blk := k5 gq (by rw [k6]; rfl)
        subst hbq
        obtain ⟨zz, hzc, hrz⟩ := run_zero hT hte w
        have hzl : (Builtin.zeroCells zz.cells (n - i.toNat)).toList = flat (List.replicate (n - i.toNat) z) := by
          have hzz : zz.cells = z.cells := Array.toList_inj.1 hzc
          rw [hzz]
          generalize n - i.toNat = m
          have hl2 : (flat (List.replicate m z)).length = m * sz := by
            rw [flat_len (sz := sz) _ (fun u hu => by rw [(List.mem_replicate.1 hu).2]; exact hzs), List.length_replicate]
          refine List.ext_getElem? fun q => ?_
          by_cases hq : q < m * sz
          · have hsp : 0 < sz := Nat.pos_of_ne_zero (fun h => by rw [h] at hq; simp at hq)
            have hqm : q % sz < z.cells.size := by rw [hzs]; exact Nat.mod_lt _ hsp
            have := flat_get (es := List.replicate m z) (sz := sz) (fun u hu => by rw [(List.mem_replicate.1 hu).2]; exact hzs) (q / sz) (q % sz) z (z.cells[q % sz]) (by
              rw [List.getElem?_replicate, if_pos]
              exact (Nat.div_lt_iff_lt_mul hsp).2 hq) (by simp [hqm])
            rw [show q / sz * sz + q % sz = q from by rw [Nat.mul_comm]; exact Nat.div_add_mod q sz] at this
            rw [this]
            simp [Builtin.zeroCells, hzs, hq]
            exact getElem!_pos z.cells (q % sz) hqm
          · rw [List.getElem?_eq_none (by simp only [Array.length_toList, Builtin.zeroCells, Array.size_map, Array.size_range, hzs]; omega), List.getElem?_eq_none (by rw [hl2]; omega)]
        have hfl := flat_len es k2
        rw [k1] at hfl
        have hrl : (flat (List.replicate (n - i.toNat) z)).length = (n - i.toNat) * sz := by
          rw [flat_len (sz := sz) _ (fun u hu => by rw [(List.mem_replicate.1 hu).2]; exact hzs), List.length_replicate]
        have hm1 : i.toNat * sz + (n - i.toNat) * sz = n * sz := by rw [← Nat.add_mul]; congr 1; omega
        have hcb : n * sz ≤ cap * sz := Nat.mul_le_mul_right _ k10
        obtain ⟨cur', hset⟩ := setN_some (i.toNat * sz) (flat (List.replicate (n - i.toNat) z)) cur.toList (by rw [hrl, Array.length_toList, k12]; omega)
        obtain ⟨q1, q2, q3⟩ := setN_get hset
        obtain ⟨w', hrun, hgq, honly, hsize⟩ := storeCells_only (P := P) (hs r).blk e (flat (List.replicate (n - i.toNat) z)) (i.toNat * sz) 0 cur.toList cur' w (by simpa using k9) (flat_one (fun u hu => by rw [(List.mem_replicate.1 hu).2]; exact Rep.one hz0)) (by simpa using hset)
        have S' := S.turn (w' := w') (e' := .row e sz n (es.take i.toNat ++ List.replicate (xs.length - i.toNat) z)) (hv := hs r) hr (fun k hk hne => honly.block k hk (fun h => hne (by simp [Ent.at_, k6, Value.ownBlock, h]))) honly.os honly.tape honly.output honly.size
          ⟨hlen2, hsz2, hone2, ⟨by rw [flat_len (sz := sz) _ hsz2, hlen2], .inr ⟨(hs r).blk, cap, cur'.toArray, k6, Nat.zero_le _, hgq, k10, k11, by simp [q1, k12], ?_⟩⟩, k5⟩
          trivial (fun k hk => .inl hk) (fun t s _ => by rw [hfun]) (fun q f _ _ => Ent.sees_eq hfun f)
        · rw [hfun] at S'
          refine ⟨_, hsl, w', ?_, S'⟩
          obtain ⟨m, hm⟩ : ∃ m, n - i.toNat = m + 1 := ⟨n - i.toNat - 1, by omega⟩
          rw [if_neg (by omega), add_none, Nat.zero_add]
          rw [← hzl, hm] at hrun
          simp only [Builtin.clear_, hm, List.getElem?_toArray, List.getElem?_cons_zero, Sem.run_bind, hru2, Result.andThen_ok, hrz, hrun, Sem.run_pure]
        · rw [flat_app, hlen]
          refine List.ext_getElem? fun q => ?_
          rw [List.toList_toArray, List.getElem?_take]
          have hfl1 : (flat (es.take i.toNat)).length = i.toNat * sz := by
            rw [flat_len (sz := sz) _ (fun u hu => k2 u (List.mem_of_mem_take hu)), List.length_take]; congr 1; omega
          by_cases hq : q < n * sz
          · rw [if_pos hq, q3 q]
            by_cases hq2 : i.toNat * sz ≤ q
            · rw [if_pos ⟨hq2, by omega⟩, List.getElem?_append_right (by omega), hfl1]
            · rw [if_neg (by omega), List.getElem?_append_left (by omega), flat_take k2, List.getElem?_take, if_pos (by omega), ← k13, List.getElem?_take, if_pos hq]
          · rw [if_neg hq, List.getElem?_eq_none (by rw [List.length_append]; omega)]
  unfold wpList
  rw [if_pos (goes_wanted S hg)]
  refine .inl ?_
  unfold Oper.wp
  rw [hex, Oper.upon_value, hd1]
  unfold wpList
  rw [if_pos (by simp [Region.wanted, hg2])]
  refine .inl ?_
  have hex2 : (execOp (a.put (some d) v').eval o2).run P w = .ok (.value (.tuple #[])) w' := by
    have hlk : (a.put (some d) v').eval (.tmp d) = v' := by
      have hsz : d < a.tmps.size := by rw [S.size]; exact hdl
      simp [Act.eval, Act.put, hsz]
    simp only [execOp, ho2, resolve, invoke, builtin, Sem.run_bind, Sem.run_pure, Result.andThen_ok, List.map_toArray, List.map_cons, List.map_nil, hlk, hcl]
  unfold Oper.wp
  rw [hex2, Oper.upon_value, hd2]
  have nx := next _ hels
  rw [setL_eq] at nx
  exact nx hs _ w' (S'.putNone d v') ((g.move (by simp) (fun _ _ => rfl)).put hd3 _)
def clr {α : Type} (xs : List α) (i : Int) (z : α) : Option (List α) := if 0 ≤ i ∧ i ≤ xs.length then some (xs.take i.toNat ++ List.replicate (xs.length - i.toNat) z) else none
theorem clr_some {α : Type} {xs zs : List α} {i : Int} {z : α} (h : clr xs i z = some zs) : 0 ≤ i ∧ i ≤ xs.length ∧ zs = xs.take i.toNat ++ List.replicate (xs.length - i.toNat) z := by
  unfold clr at h
  split at h
  · rename_i h0; exact ⟨h0.1, h0.2, (Option.some.inj h).symm⟩
  · simp at h
theorem EL.clr {α : Type} [Rep α] {xs zs : List α} {z0 : α} {i : Int} {d t t2 r e sz n s1 b1 b2 : Nat} {o2 : Oper} {x yo : Operand} {k : IntKind} {es : List Value} {z1 : List Value} {z : Value} {kd : TK} (hp : Proofs.Ytdiclbejalelfaa.clr xs i z0 = some zs) (hes : Els G xs es) (hz0 : R G z0 z) (hT : TOk P T) (hg : goes lops env o.guard = true) (hg2 : o2.guard = none) (hd : okDst C.n gv o.dst = some d) (hd2 : o2.dst = none)
    (ho : o.op = .slice t x (some yo) none none) (ho2 : o2.op = .call ⟨.builtin .clear, #[.tmp d], #[t2]⟩) (hx : ev env gv [] x = some (.row r)) (hy : ev env gv [] yo = some (.v (.int k i))) (hr : nth L r = some (.row e sz n es)) (hn : n = xs.length) (ht : ti T t = some ⟨s1, b1, z1, .slice e⟩) (ht2 : ti T t2 = some ⟨s1, b1, z1, .slice e⟩) (hte : ti T e = some ⟨sz, b2, z.cells.toList, kd⟩) (hsz : Rep.sz α = sz)
    (next : ∀ es', Els G zs es' → EL P lops Q C l ((d, none) :: env) gv (setL L r (.row e sz zs.length es')) G) : EL P lops Q C (o :: o2 :: l) env gv L G := by
  obtain ⟨h0, h1, rfl⟩ := clr_some hp
  subst hn
  have hl : (xs.take i.toNat ++ List.replicate (xs.length - i.toNat) z0).length = xs.length := by rw [List.length_append, List.length_take, List.length_replicate]; omega
  rw [hl] at next
  exact EL.clearTail h0 h1 hes hz0 hT hg hg2 hd hd2 ho ho2 hx hy hr ht ht2 hte hsz next
end
end Go.Proofs.Ytdiclbejalelfaa
