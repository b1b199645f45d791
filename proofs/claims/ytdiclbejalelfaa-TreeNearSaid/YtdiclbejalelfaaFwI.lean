/- append, make, stores into rows of the call's own, reads of them; calls that are lent what the call owns. No condition. -/
import Derived.Test.YtdiclbejalelfaaFwH
import Derived.Laws.OwnMore
set_option linter.unusedVariables false
set_option linter.unusedSimpArgs false
namespace Go.Proofs.Ytdiclbejalelfaa
open Go.RowKit
open Rep (R)

theorem flat_app (a b : List Value) : flat (a ++ b) = flat a ++ flat b := by simp [flat]
theorem flat_len {sz : Nat} : ∀ l : List Value, (∀ u ∈ l, u.cells.size = sz) → (flat l).length = l.length * sz := by
  intro l
  induction l with
  | nil => intro _; simp [flat]
  | cons x l ih => intro hx; have := ih (fun u hu => hx u (List.mem_cons_of_mem _ hu)); simp [flat] at this ⊢; rw [this, hx x List.mem_cons_self, Nat.succ_mul, Nat.add_comm]
theorem flat_one {l : List Value} (h : ∀ u ∈ l, ∀ c ∈ u.cells, c.oneCell' = true) : ∀ c ∈ flat l, c.oneCell' = true := by
  intro c hc
  simp only [flat, List.mem_flatMap] at hc
  obtain ⟨u, hu, hc⟩ := hc
  exact h u hu c (by simpa using hc)

section
variable {P : Program} {T : Tab} {lops l l' : List Oper} {Q : Exit → Act → World → Prop} {C : Ctx} {env env' : Env} {gv gv' : GV} {L L' : List Ent} {G G' : Ghost} {o : Oper}

/-- A row has grown by an append. -/
theorem Sim.appended {hs : Nat → Hd} {a : Act} {w w' : World} (S : Sim C env L G hs a w) {r e sz n m n' : Nat} {es fs : List Value} {v' : Value} (hr : L[r]? = some (.row e sz n es)) (hfl : fs.length = m) (hf2 : ∀ u ∈ fs, u.cells.size = sz) (hf3 : ∀ u ∈ fs, ∀ c ∈ u.cells, c.oneCell' = true) (hn : n + m = n')
    (hown : w'.ownsRow 0 e sz v' n' (flat es ++ flat fs)) (hgr : w.grownBy w' (hs r).val.ownBlock) (hat : v'.ownBlock = (hs r).val.ownBlock ∨ v'.ownBlock = some w.heap.size) :
    ∃ hs', Sim C (killE r (hs r).blk (hs r).val env) ((killR r (hs r).blk (hs r).val L).set r (.row e sz n' (es ++ fs))) G hs' a w' ∧ (hs' r).val = v' ∧ ∀ q, q ≠ r → hs' q = hs q := by
  obtain ⟨h1, h2, h3, h4, h5⟩ := (S.holds r _ hr).1
  have S' := S.turnKill (w' := w') (e' := .row e sz n' (es ++ fs)) (hv := ⟨(v'.ownBlock).getD (hs r).blk, v'⟩) hr rfl trivial
    (fun k hk hne => hgr.block k hk (fun h => hne h.symm)) hgr.os hgr.tape hgr.output hgr.size
    (fun hs' => ⟨by simp [h1, hfl, hn], fun u hu => (List.mem_append.1 hu).elim (h2 u) (hf2 u), fun u hu => (List.mem_append.1 hu).elim (h3 u) (hf3 u), by rw [flat_app]; exact hown, fun k hk => by simp [hk]⟩)
    (fun k hk => by
      rcases hat with hat | hat
      · exact .inl (by show (hs r).val.ownBlock = some k; rw [← hat]; exact hk)
      · have : some k = some w.heap.size := by rw [← hat]; exact hk.symm
        have hk2 : k = w.heap.size := Option.some.inj this
        exact .inr ⟨Nat.le_of_eq hk2.symm, (hown.lt k hk).2⟩)
  exact ⟨_, S', by simp, fun q hq => by simp [hq]⟩

theorem ev_row {hs : Nat → Hd} {a : Act} {w : World} (S : Sim C env L G hs a w) (g : GOk C gv L hs a) {x : Operand} {r : Nat} (h : ev env gv [] x = some (.row r)) : a.eval x = (hs r).val :=
  (ev_val S g (fun _ h => absurd h (by simp)) h).1

theorem EL.append {d t r q e sz n m n' by_ : Nat} {s x : Operand} {es fs : List Value} {b1 s1 : Nat} {z z1 : List Value} {kd : TK} (hlim : n + m ≤ 4294967296) (hn : n + m = n') (hT : TOk P T) (hg : goes lops env o.guard = true) (hd : okDst C.n gv o.dst = some d) (hng : noG gv = true)
    (ho : o.op = .call ⟨.builtin .append, #[s, x], #[t, t]⟩) (hs : ev env gv [] s = some (.row r)) (hx : ev env gv [] x = some (.row q)) (hr : nth L r = some (.row e sz n es)) (hq : nth L q = some (.row e sz m fs)) (hne : Nat.beq q r = false)
    (ht : ti T t = some ⟨s1, b1, z1, .slice e⟩) (hte : ti T e = some ⟨sz, by_, z, kd⟩) (hz : Nat.beq (len' z) sz = true) (hpos : Nat.ble 1 sz = true) (hby : Nat.ble by_ 32768 = true) (hm : Nat.ble 1 m = true)
    (next : ∀ blk val, EL P lops Q C l ((d, some (.row r)) :: killE r blk val env) gv (setL (setL (killR r blk val L) q .gone) r (.row e sz n' (es ++ fs))) G) : EL P lops Q C (o :: l) env gv L G := by
  intro hh a w S g
  obtain ⟨hd1, hd2, hd3⟩ := okDst_eq hd
  have hne' : q ≠ r := fun e => by subst e; simp at hne
  rw [nth_eq] at hr hq
  obtain ⟨h1, h2, h3, h4, h5⟩ := (S.holds r _ hr).1
  obtain ⟨k1, k2, k3, k4, k5⟩ := (S.holds q _ hq).1
  obtain ⟨i, u, zv, hi, hu, hzv, hsz, hby', hzc, hk⟩ := ti_info hT hte
  obtain ⟨i', u', _, _, hu', _, _, _, _, hk'⟩ := ti_info hT ht
  obtain rfl := und_slice hk'
  have hm' : 1 ≤ m := Nat.le_of_ble_eq_true hm
  have hpos' : 0 < sz := Nat.le_of_ble_eq_true hpos
  have hz' := Nat.eq_of_beq_eq_true hz
  have hby2 : by_ ≤ 32768 := Nat.le_of_ble_eq_true hby
  obtain ⟨gq, cap, hvq, hcells⟩ : ∃ gq cap, (hh q).val = .slice (some ⟨gq, 0, none⟩) m cap ∧ ∀ j u, (flat fs)[j]? = some u → w.cell? ((⟨gq, 0, none⟩ : Addr).add j) = some u := by
    rcases k4.2 with ⟨_, k7⟩ | ⟨gq, cap, cur, k7, _⟩
    · omega
    · exact ⟨gq, cap, k7, k4.cells (by rw [k7]; rfl)⟩
  obtain ⟨v', w', hrun, hown, hgr, _, hat⟩ := run_append_own_at (P := P) w 0 t o.type e i zv sz by_ hu' hi hzv (hsz.trans rfl) (hby'.trans rfl) (by rw [← Array.length_toList, hzc, ← len'_eq]; exact hz') hpos' (hh r).val n (flat es) h4 ⟨gq, 0, none⟩ m cap (flat fs) (by rw [flat_len fs k2, k1]) hcells (flat_one k3) (by unfold maxLen; omega) (Nat.le_trans (Nat.mul_le_mul hlim hby2) (by decide)) (Nat.zero_le _)
  obtain ⟨hs', S', hv', hoth⟩ := S.appended hr k1 k2 k3 hn (by rw [← hn]; exact hown) hgr hat
  have S2 := S'.drop q
  unfold wpList
  rw [if_pos (goes_wanted S hg)]
  refine .inl ?_
  have hex : (execOp a.eval o).run P w = .ok (.value v') w' := by
    simp only [execOp, ho, resolve, invoke, builtin, Sem.run_bind, Sem.run_pure, Result.andThen_ok, List.map_toArray, List.map_cons, List.map_nil, ev_row S g hs, ev_row S g hx, hvq, hrun]
  unfold Oper.wp
  rw [hex, Oper.upon_value, hd1]
  have hlt : r < L.length := (List.getElem?_eq_some_iff.1 hr).1
  have S3 := S2.put hd2 (s := .row r) (by show r < _; rw [List.length_set, List.length_set, killR_len]; exact hlt)
  rw [show SV.val hs' (.row r) = v' from hv', List.set_comm _ _ (Ne.symm hne')] at S3
  have hnx := next (hh r).blk (hh r).val hs' (a.put (some d) v') w'
  rw [setL_eq, setL_eq] at hnx
  exact hnx S3 ((g.put hd3 v').any hng)

/-- append(s, xs...), xs only read. -/
theorem EL.appendP {α : Type} [Rep α] {ys : List α} {v : Value} {d t r e sz n n' by_ : Nat} {s x : Operand} {es : List Value} {b1 s1 : Nat} {z z1 : List Value} {kd : TK} (hys : R G ys v) (hlim : n + ys.length ≤ 4294967296) (hn : n + ys.length = n') (hT : TOk P T) (hg : goes lops env o.guard = true) (hd : okDst C.n gv o.dst = some d) (hng : noG gv = true)
    (ho : o.op = .call ⟨.builtin .append, #[s, x], #[t, t]⟩) (hs : ev env gv [] s = some (.row r)) (hx : ev env gv [] x = some (.v v)) (hr : nth L r = some (.row e sz n es))
    (ht : ti T t = some ⟨s1, b1, z1, .slice e⟩) (hte : ti T e = some ⟨sz, by_, z, kd⟩) (hsz0 : Rep.sz α = sz) (hz : Nat.beq (len' z) sz = true) (hpos : Nat.ble 1 sz = true) (hby : Nat.ble by_ 32768 = true)
    (next : ∀ blk val fs, Els G ys fs → EL P lops Q C l ((d, some (.row r)) :: killE r blk val env) gv (setL (killR r blk val L) r (.row e sz n' (es ++ fs))) G) : EL P lops Q C (o :: l) env gv L G := by
  intro hh a w S g
  obtain ⟨hd1, hd2, hd3⟩ := okDst_eq hd
  rw [nth_eq] at hr
  obtain ⟨h1, h2, h3, h4, h5⟩ := (S.holds r _ hr).1
  obtain ⟨i, u, zv, hi, hu, hzv, hsz, hby', hzc, hk⟩ := ti_info hT hte
  obtain ⟨i', u', _, _, hu', _, _, _, _, hk'⟩ := ti_info hT ht
  obtain rfl := und_slice hk'
  have hpos' : 0 < sz := Nat.le_of_ble_eq_true hpos
  have hz' := Nat.eq_of_beq_eq_true hz
  have hby2 : by_ ≤ 32768 := Nat.le_of_ble_eq_true hby
  obtain ⟨A, cap, rfl, hcap, hel⟩ := hys
  have hlt : r < L.length := (List.getElem?_eq_some_iff.1 hr).1
  -- the elements
  obtain ⟨fs, hfs, k1, k2, k3, hcells⟩ : ∃ fs, Els G ys fs ∧ fs.length = ys.length ∧ (∀ u ∈ fs, u.cells.size = sz) ∧ (∀ u ∈ fs, ∀ c ∈ u.cells, c.oneCell' = true) ∧ ∀ b o', A = some ⟨b, o', none⟩ → ∀ j u, (flat fs)[j]? = some u → w.cell? ⟨b, o' + j, none⟩ = some u := by
    have key : ∀ (zs : List α) (k : Nat), (∀ b o', A = some ⟨b, o', none⟩ → ∀ j x, zs[j]? = some x → ∃ u, R G x u ∧ CellsAt G b (o' + (k + j) * sz) u) → (zs ≠ [] → ∃ b o', A = some ⟨b, o', none⟩) →
        ∃ fs, Els G zs fs ∧ fs.length = zs.length ∧ (∀ u ∈ fs, u.cells.size = sz) ∧ (∀ u ∈ fs, ∀ c ∈ u.cells, c.oneCell' = true) ∧ ∀ b o', A = some ⟨b, o', none⟩ → ∀ j u, (flat fs)[j]? = some u → w.cell? ⟨b, o' + k * sz + j, none⟩ = some u := by
      intro zs
      induction zs with
      | nil => intro k _ _; exact ⟨[], .nil, rfl, by simp, by simp, fun b o' _ j u h => by simp [flat] at h⟩
      | cons y zs ih =>
        intro k h hne
        obtain ⟨b, o', hA⟩ := hne (by simp)
        obtain ⟨u, hu, hc⟩ := h b o' hA 0 y rfl
        obtain ⟨fs, h1, h2, h3, h4, h5⟩ := ih (k + 1) (fun b o' hA j x hx => by
          obtain ⟨u, hu, hc⟩ := h b o' hA (j + 1) x hx
          exact ⟨u, hu, by rw [show k + 1 + j = k + (j + 1) by omega]; exact hc⟩) (fun _ => ⟨b, o', hA⟩)
        have husz : u.cells.size = sz := by rw [Rep.size hu, hsz0]
        refine ⟨u :: fs, .cons hu h1, by simp [h2], fun x hx => ?_, fun x hx => ?_, fun b1 o1 hA1 j x hj => ?_⟩
        · rcases List.mem_cons.1 hx with rfl | hx
          · exact husz
          · exact h3 x hx
        · rcases List.mem_cons.1 hx with rfl | hx
          · exact Rep.one hu
          · exact h4 x hx
        · rw [hA] at hA1
          injection hA1 with hA1
          injection hA1 with hb1 ho1
          subst hb1; subst ho1
          have hj' : (u.cells.toList ++ flat fs)[j]? = some x := hj
          rcases Nat.lt_or_ge j u.cells.toList.length with hlt | hge
          · rw [List.getElem?_append_left hlt] at hj'
            have := S.ok _ _ (hc j x hj')
            rwa [Nat.add_zero] at this
          · rw [List.getElem?_append_right hge, Array.length_toList, husz] at hj'
            rw [Array.length_toList, husz] at hge
            have := h5 b o' hA _ x hj'
            rwa [show o' + (k + 1) * sz + (j - sz) = o' + k * sz + j by rw [Nat.succ_mul]; omega] at this
    obtain ⟨fs, h1, h2, h3, h4, h5⟩ := key ys 0 (fun b o' hA j x hx => by
      have hp : 0 < ys.length := by have := (List.getElem?_eq_some_iff.1 hx).1; omega
      obtain ⟨b1, o1, hA1, hel⟩ := hel hp
      rw [hA] at hA1
      injection hA1 with hA1
      injection hA1 with hb1 ho1
      subst hb1; subst ho1
      rw [Nat.zero_add, ← hsz0]
      exact hel j x hx) (fun hne => by
      obtain ⟨b1, o1, hA1, _⟩ := hel (List.length_pos_iff.2 hne)
      exact ⟨b1, o1, hA1⟩)
    exact ⟨fs, h1, h2, h3, h4, fun b o' hA j u hj => by have := h5 b o' hA j u hj; simpa using this⟩
  have hrun : ∃ v' w', (Builtin.append_ #[t, t] o.type #[(hh r).val, .slice A ys.length cap]).run P w = .ok v' w' ∧ w'.ownsRow 0 e sz v' (n + ys.length) (flat es ++ flat fs) ∧ w.grownBy w' (hh r).val.ownBlock ∧ (v'.ownBlock = (hh r).val.ownBlock ∨ v'.ownBlock = some w.heap.size) := by
    have hbytes : (n + ys.length) * by_ ≤ 140737488355328 := Nat.le_trans (Nat.mul_le_mul hlim hby2) (by decide)
    cases A with
    | none =>
      have h0 : ys.length = 0 := by
        rcases Nat.eq_zero_or_pos ys.length with h | h
        · exact h
        · obtain ⟨b, o', hA, _⟩ := hel h; simp at hA
      have hf0 : fs = [] := List.eq_nil_of_length_eq_zero (by omega)
      subst hf0
      rw [h0]
      have h4' := h4
      refine ⟨(hh r).val, w, ?_, by simpa [flat] using h4', ⟨rfl, rfl, rfl, Nat.le_refl _, fun _ _ _ => rfl⟩, .inl rfl⟩
      rcases h4.2 with ⟨h6, h7⟩ | ⟨gg, cp, cur, h6, _, _, hnc, _⟩
      · rw [h6]; simp [Builtin.append_, run_underlying hu', sizeOf, typeInfo, hi, Builtin.lenOf, Builtin.firstCells]
      · rw [h6]; simp [Builtin.append_, run_underlying hu', sizeOf, typeInfo, hi, Builtin.lenOf, Builtin.firstCells, hnc, storeCells]
    | some ad =>
      obtain ⟨v', w', h6, h7, h8, _, h9⟩ := run_append_own_at (P := P) w 0 t o.type e i zv sz by_ hu' hi hzv (hsz.trans rfl) (hby'.trans rfl) (by rw [← Array.length_toList, hzc, ← len'_eq]; exact hz') hpos' (hh r).val n (flat es) h4 ad ys.length cap (flat fs) (by rw [flat_len fs k2, k1]) (fun j u hj => by
        have hp : 0 < ys.length := by
          rcases Nat.eq_zero_or_pos ys.length with h | h
          · rw [List.eq_nil_of_length_eq_zero (show fs.length = 0 by omega)] at hj; simp [flat] at hj
          · exact h
        obtain ⟨b, o', hA, _⟩ := hel hp
        obtain rfl := Option.some.inj hA
        rw [add_none]
        exact hcells b o' rfl j u hj) (flat_one k3) (by unfold maxLen; omega) hbytes (Nat.zero_le _)
      exact ⟨v', w', h6, h7, h8, h9⟩
  obtain ⟨v', w', hrun, hown, hgr, hat⟩ := hrun
  obtain ⟨hs', S', hv', hoth⟩ := S.appended hr k1 k2 k3 hn (by rw [← hn]; exact hown) hgr hat
  unfold wpList
  rw [if_pos (goes_wanted S hg)]
  refine .inl ?_
  have hex : (execOp a.eval o).run P w = .ok (.value v') w' := by
    simp only [execOp, ho, resolve, invoke, builtin, Sem.run_bind, Sem.run_pure, Result.andThen_ok, List.map_toArray, List.map_cons, List.map_nil, ev_row S g hs, ev_v S g hx, hrun]
  unfold Oper.wp
  rw [hex, Oper.upon_value, hd1]
  have S3 := S'.put hd2 (s := .row r) (by show r < _; rw [List.length_set, killR_len]; exact hlt)
  rw [show SV.val hs' (.row r) = v' from hv'] at S3
  have hnx := next (hh r).blk (hh r).val fs hfs hs' (a.put (some d) v') w'
  rw [setL_eq] at hnx
  exact hnx S3 ((g.put hd3 v').any hng)
end
end Go.Proofs.Ytdiclbejalelfaa
