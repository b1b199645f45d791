/- The law TreeNear in plain terms: it comes to true, whatever its arguments. No condition but that whole numbers are Go's. -/
import Derived.Test.YtdiclbejalelfaaPTree2
import Derived.Test.YtdiclbejalelfaaTO
set_option linter.unusedVariables false
set_option linter.unusedSimpArgs false
set_option linter.unusedSectionVars false
namespace Go.Proofs.Ytdiclbejalelfaa

theorem remTwice (x : Int) (n : Nat) (h0 : 0 < n) (h1 : n < 1000) : ∃ (r : Int) (q : Nat), irem x n = some r ∧ irem (wr (r + n)) n = some (q : Int) ∧ q < n := by
  have hr : irem x n = some (x.tmod n) := by unfold irem; rw [if_neg (by omega)]
  have h3 : (x.tmod n).natAbs < n := by rw [Int.natAbs_tmod, Int.natAbs_natCast]; exact Nat.mod_lt _ h0
  have h4 : x.tmod n < (n : Int) := Int.tmod_lt_of_pos x (by omega)
  have h5 : 0 ≤ (x.tmod n + n).tmod n := Int.tmod_nonneg _ (by omega)
  have h6 : (x.tmod n + n).tmod n < (n : Int) := Int.tmod_lt_of_pos _ (by omega)
  refine ⟨x.tmod n, ((x.tmod n + n).tmod n).toNat, hr, ?_, by omega⟩
  unfold irem
  rw [if_neg (by omega), wr_id (by omega) (by omega), Int.toNat_of_nonneg h5]
theorem best_not {k : Nat} (hk : 7000 ≤ k) {l : Lan} (hl : Small l) (h : rightB l = false) (i : Int) : tree_Best k l i = some (0, 0, 1) := by
  unfold tree_Best
  rw [right_eq k (by omega) l hl, h]; rfl
theorem best_out {k : Nat} (hk : 7000 ≤ k) {l : Lan} (hl : Small l) (h : rightB l = true) (i : Int) (hi : i < 0 ∨ (l.Plans.length : Int) ≤ i) : tree_Best k l i = some (0, 0, 3) := by
  unfold tree_Best
  rw [right_eq k (by omega) l hl, h, Option.bind_some]
  unfold tree_Best_j1
  rcases hi with hi | hi
  · rw [decide_eq_true hi]; rfl
  · by_cases h0 : i < 0
    · rw [decide_eq_true h0]; rfl
    · rw [decide_eq_false h0, decide_eq_true (by omega)]; rfl
theorem best_in {k : Nat} {l : Lan} (hk : 7000 ≤ k) (hl : Small l) (h : rightB l = true) {out : List arr2_i64} (hb : tree_bests k l = some out) {a : Nat} {w : arr2_i64} (hw : out[a]? = some w) (ha : a < l.Plans.length) : tree_Best k l (a : Int) = some (w.x0, w.x1, 0) := by
  unfold tree_Best
  rw [right_eq k (by omega) l hl, h, Option.bind_some, Bool.not_true, cond_false, decide_eq_false (by omega), cond_false, decide_eq_false (by omega)]
  unfold tree_Best_j1
  rw [cond_false, hb, Option.bind_some, idx_nat, hw]; rfl
theorem aliveTree : law16_alive 7000 = some true := by decide +kernel
theorem nearInner {k : Nat} (hk : 7000 ≤ k) {a b : Nat} {w v : arr2_i64} {x : Link} {q : Plan} (hq : q.Ports.length ≤ 10) (ok : a ≠ b → x.Up = true → ∀ y ∈ q.Ports, y.Up = true → x.Seg = y.Seg → w.x0 = v.x0 ∧ ¬ (w.x1 > wr (v.x1 + x.Cost)) ∧ ¬ (v.x1 > wr (w.x1 + y.Cost)))
    (i : Nat) (hi : i < 100) (rec : Int → Option Bool) : loopN (fun _ => none) (law16_TreeNear_s5 k (a : Int) (b : Int) (w.x0, w.x1, 0) (v.x0, v.x1, 0) (i : Int) rec x q) k 0 = rec ((i + 1 : Nat) : Int) := by
  have key := loop_ind (z := (fun _ => none : Int → Option Bool)) (s := law16_TreeNear_s5 k (a : Int) (b : Int) (w.x0, w.x1, 0) (v.x0, v.x1, 0) (i : Int) rec x q) (fun n f => ∀ j : Nat, j ≤ q.Ports.length → q.Ports.length - j < n → f j = rec ((i + 1 : Nat) : Int))
    (fun _ _ h => by omega) (fun n f ih j hj hn => by
      unfold law16_TreeNear_s5
      by_cases hlt : j < q.Ports.length
      · rw [decide_eq_true (by omega), cond_true, idx_lt hlt, Option.bind_some]
        have hgo : law16_TreeNear_j4 k (j : Int) f false = rec ((i + 1 : Nat) : Int) := by
          unfold law16_TreeNear_j4
          rw [cond_false, show wr ((j : Int) + 1) = ((j + 1 : Nat) : Int) by rw [wr_id (by omega) (by omega)]; omega]
          exact ih (j + 1) (by omega) (by omega)
        simp only [hgo]
        have hm := List.getElem_mem hlt
        generalize q.Ports[j] = y at hm
        cases hab : ((a : Int) != (b : Int)) with
        | false => rfl
        | true =>
          have hab' : a ≠ b := by
            intro e; subst e; simp at hab
          cases hxu : x.Up with
          | false => rfl
          | true =>
            cases hyu : y.Up with
            | false => rfl
            | true =>
              cases hs : x.Seg == y.Seg with
              | false => rfl
              | true =>
                obtain ⟨h1, h2, h3⟩ := ok hab' hxu y hm hyu (by simpa using hs)
                simp only [cond_true]
                rw [h1, show (v.x0 != v.x0) = false by simp, cond_false, decide_eq_false h2, cond_false, decide_eq_false h3]
                exact hgo
      · rw [decide_eq_false (by omega), cond_false]
        unfold law16_TreeNear_j3
        rw [show wr ((i : Int) + 1) = ((i + 1 : Nat) : Int) by rw [wr_id (by omega) (by omega)]; omega]) k
  exact key 0 (Nat.zero_le _) (by omega)
namespace Pure
theorem treeNear (p0 : Lan) (p1 p2 : Int) (w0 : wf_Lan p0) (w1 : wfI p1) (w2 : wfI p2) : ∃ k, law16_TreeNear k p0 p1 p2 = some true := by
  obtain ⟨k, hk, hal⟩ : ∃ k, 7000 ≤ k ∧ law16_alive k = some true := ⟨7000, Nat.le_refl _, aliveTree⟩
  refine ⟨k, ?_⟩
  unfold law16_TreeNear
  rw [few_eq k (by omega), Option.bind_some]
  have hl := fewL_small p0
  generalize fewL p0 = l at hl
  have h8 := hl.plans
  rw [hal]
  simp only [Option.bind_some]
  rcases Nat.eq_zero_or_pos l.Plans.length with hz | hpos
  · rw [show ((l.Plans.length : Int) == 0) = true by rw [hz]; rfl, cond_true]
    cases hb : rightB l with
    | false => rw [best_not hk hl hb, Option.bind_some]; rfl
    | true => rw [best_out hk hl hb 0 (.inr (by omega)), Option.bind_some]; rfl
  · rw [show ((l.Plans.length : Int) == 0) = false by rw [beq_eq_false_iff_ne]; omega, cond_false]
    obtain ⟨r1, a, e1, e2, ha⟩ := remTwice p1 l.Plans.length hpos (by omega)
    obtain ⟨r2, b, e3, e4, hb⟩ := remTwice p2 l.Plans.length hpos (by omega)
    rw [e1, Option.bind_some, e2, Option.bind_some, e3, Option.bind_some, e4, Option.bind_some]
    cases hrb : rightB l with
    | false =>
      rw [best_not hk hl hrb, Option.bind_some, best_not hk hl hrb, Option.bind_some]; rfl
    | true =>
      have hr := rightL hrb
      obtain ⟨out, hf, hout⟩ := bests_eq hl hrb hk
      have hwa := List.getElem?_eq_getElem (l := out) (i := a) (by rw [hf.len]; exact ha)
      have hvb := List.getElem?_eq_getElem (l := out) (i := b) (by rw [hf.len]; exact hb)
      generalize out[a]'(by rw [hf.len]; exact ha) = w at hwa
      generalize out[b]'(by rw [hf.len]; exact hb) = v at hvb
      rw [best_in hk hl hrb hout hwa ha, Option.bind_some, best_in hk hl hrb hout hvb hb, Option.bind_some]
      show law16_TreeNear_j7 k l (a : Int) (b : Int) (w.x0, w.x1, 0) (v.x0, v.x1, 0) (!true) = some true
      unfold law16_TreeNear_j7
      have hpa := List.getElem?_eq_getElem ha
      have hpb := List.getElem?_eq_getElem hb
      generalize l.Plans[a] = P at hpa
      generalize l.Plans[b] = Q at hpb
      have hPm : P ∈ l.Plans := List.mem_of_getElem? hpa
      have hQm : Q ∈ l.Plans := List.mem_of_getElem? hpb
      rw [Bool.not_true, cond_false, idx_nat, hpa, Option.bind_some]
      have hP10 := hl.ports P hPm
      have hQ10 := hl.ports Q hQm
      have okw := hf.ok a w hwa
      have okv := hf.ok b v hvb
      have key := loop_ind (z := (fun _ => none : Int → Option Bool)) (s := law16_TreeNear_s6 k l (a : Int) (b : Int) (w.x0, w.x1, 0) (v.x0, v.x1, 0) P) (fun n f => ∀ i : Nat, i ≤ P.Ports.length → P.Ports.length - i < n → f i = some true)
        (fun _ _ h => by omega) (fun n f ih i hi hn => by
          unfold law16_TreeNear_s6
          by_cases hlt : i < P.Ports.length
          · rw [decide_eq_true (by omega), cond_true, idx_lt hlt, Option.bind_some, idx_nat, hpb, Option.bind_some]
            have hok : a ≠ b → P.Ports[i].Up = true → ∀ y ∈ Q.Ports, y.Up = true → P.Ports[i].Seg = y.Seg → w.x0 = v.x0 ∧ ¬ (w.x1 > wr (v.x1 + P.Ports[i].Cost)) ∧ ¬ (v.x1 > wr (w.x1 + y.Cost)) := by
              intro hab hxu y hy hyu hs
              have hxm : P.Ports[i] ∈ P.Ports := List.getElem_mem hlt
              have hxc := hr.cost P hPm _ hxm
              have hyc := hr.cost Q hQm y hy
              obtain ⟨j, hj⟩ := List.getElem?_of_mem hy
              have d1 := hf.edge a b y w v ⟨P, Q, P.Ports[i], j, hpa, hpb, hxm, hxu, hj, hyu, hs.symm⟩ hwa hvb
              have d2 := hf.edge b a P.Ports[i] v w ⟨Q, P, y, i, hpb, hpa, hy, hyu, List.getElem?_eq_getElem hlt, hxu, hs⟩ hvb hwa
              unfold leP far at d1 d2
              simp only at d1 d2
              have c1 := okw.cost
              have c2 := okv.cost
              rw [wr_id (by omega) (by omega), wr_id (by omega) (by omega)]
              refine ⟨by omega, by omega, by omega⟩
            rw [nearInner hk hQ10 hok i (by omega) f]
            exact ih (i + 1) (by omega) (by omega)
          · rw [decide_eq_false (by omega), cond_false]
            unfold law16_TreeNear_j2
            have c1 := okw.cost
            simp only
            rw [decide_eq_true (by omega), cond_true, idx_nat, hpa, Option.bind_some]
            unfold law16_TreeNear_j1
            have hlow := okw.low P hpa
            have hzero := okw.zero
            unfold leP at hlow
            simp only at hlow
            congr 1
            by_cases h0 : w.x1 = 0
            · rw [hzero h0 P hpa, h0]; simp
            · have : w.x0 ≠ P.ID := by omega
              rw [show (w.x1 == 0) = false by rw [beq_eq_false_iff_ne]; exact h0, show (w.x0 == P.ID) = false by rw [beq_eq_false_iff_ne]; exact this]; rfl) k
      exact key 0 (Nat.zero_le _) (by omega)
end Pure
end Go.Proofs.Ytdiclbejalelfaa
