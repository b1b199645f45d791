/- container/heap in plain terms: down, Pop and Push. No condition. -/
import Derived.Test.YtdiclbejalelfaaPHeap
set_option linter.unusedVariables false
set_option linter.unusedSimpArgs false
namespace Go.Proofs.Ytdiclbejalelfaa

def downSwap {β : Type} (K : List tree_way → Option β) (rec : Int → List tree_way → Option β) (i : Int) (l : List tree_way) (j : Int) : Option β :=
  (idx l j).bind fun y => (idx l i).bind fun p => bif !(lessB y.best p.best) then K l else
    ((idx l j).bind fun y1 => (idx l i).bind fun y2 => (idx l i).bind fun _ => (upd l i y1).bind fun l1 => (idx l1 j).bind fun _ => (upd l1 j y2).bind fun l2 => rec j l2)
def downStep {β : Type} (K : List tree_way → Option β) (n : Int) (rec : Int → List tree_way → Option β) (i : Int) (l : List tree_way) : Option β :=
  bif (decide ((wr ((wr (2 * i)) + 1)) ≥ n)) || (decide ((wr ((wr (2 * i)) + 1)) < 0)) then K l else
    (bif decide ((wr ((wr ((wr (2 * i)) + 1)) + 1)) < n) then ((idx l (wr ((wr ((wr (2 * i)) + 1)) + 1))).bind fun a => (idx l (wr ((wr (2 * i)) + 1))).bind fun b =>
      bif lessB a.best b.best then downSwap K rec i l (wr ((wr ((wr (2 * i)) + 1)) + 1)) else downSwap K rec i l (wr ((wr (2 * i)) + 1))) else downSwap K rec i l (wr ((wr (2 * i)) + 1)))
theorem s27_eq (k : Nat) (p0 : Lan) (l38 : List arr2_i64) (m : List (Int × Bool)) (rec : List tree_way → List arr2_i64 → List (Int × Bool) → Option (List arr2_i64)) (i : Int) :
    tree_bests_s27 k p0 l38 m rec i = downStep (fun l => tree_bests_j20 k p0 l38 m rec l true) (wr (i - 1)) := by
  funext r j l
  unfold tree_bests_s27 downStep tree_bests_j26 tree_bests_j25 tree_bests_j24 tree_bests_j23 tree_bests_j22 tree_bests_j21 tree_bests_j20 downSwap
  simp only [less_eq, Option.bind_some, cond_false]
structure DownInv (l : List tree_way) (n i : Nat) : Prop where
  a : ∀ (m : Nat) (y p : tree_way), 0 < m → m < n → (m - 1) / 2 ≠ i → l[m]? = some y → l[(m - 1) / 2]? = some p → leP p.best y.best
  b : ∀ (c : Nat) (y p : tree_way), 0 < i → 0 < c → c < n → (c - 1) / 2 = i → l[c]? = some y → l[(i - 1) / 2]? = some p → leP p.best y.best
theorem down_loop {β : Type} (K : List tree_way → Option β) (n : Nat) : ∀ (fuel i : Nat) (l : List tree_way), n - i < fuel → i ≤ n → n ≤ l.length → (n = 0 ∨ i < n) → l.length < 1000000 → DownInv l n i →
    ∃ l', l'.Perm l ∧ (∀ m, n ≤ m → l'[m]? = l[m]?) ∧ Heap l' n ∧ loopN (fun _ _ => none) (downStep K (n : Int)) fuel (i : Int) l = K l' := by
  intro fuel
  induction fuel with
  | zero => intro i l h; omega
  | succ fuel ih =>
    intro i l hf hi hn hin hl inv
    rw [loopN]
    generalize hrec : loopN (fun _ _ => none) (downStep K (n : Int)) fuel = rec at ih
    have e1 : wr ((wr (2 * (i : Int))) + 1) = ((2 * i + 1 : Nat) : Int) := by rw [wr_id (x := 2 * (i : Int)) (by omega) (by omega), wr_id (by omega) (by omega)]; omega
    have e2 : wr (((2 * i + 1 : Nat) : Int) + 1) = ((2 * i + 2 : Nat) : Int) := by rw [wr_id (by omega) (by omega)]; omega
    have key : ∀ j, j < n → (j - 1) / 2 = i → 0 < j → (∀ (c : Nat) (y z : tree_way), 0 < c → c < n → (c - 1) / 2 = i → l[c]? = some y → l[j]? = some z → leP z.best y.best) →
        ∃ l', l'.Perm l ∧ (∀ m, n ≤ m → l'[m]? = l[m]?) ∧ Heap l' n ∧ downSwap K rec (i : Int) l (j : Int) = K l' := by
      intro j hj hji hj0 hmin
      have hjl : j < l.length := by omega
      have hil : i < l.length := by omega
      have hy := List.getElem?_eq_getElem hjl
      have hp := List.getElem?_eq_getElem hil
      generalize l[j] = y at hy
      generalize l[i] = p at hp
      have hne : i ≠ j := by omega
      unfold downSwap
      simp only [idx_some' hy, idx_some' hp, Option.bind_some]
      cases hb : lessB y.best p.best with
      | false =>
        refine ⟨l, List.Perm.refl _, fun _ _ => rfl, fun m y' p' h0 hm h1 h2 => ?_, rfl⟩
        by_cases hmi : (m - 1) / 2 = i
        · rw [hmi, hp] at h2; obtain rfl := Option.some.inj h2
          exact leP_trans (lessB_false hb) (hmin m y' y h0 hm hmi h1 hy)
        · exact inv.a m y' p' h0 hm hmi h1 h2
      | true =>
        have hyp := lessB_true hb
        simp only [Bool.not_true, cond_false]
        rw [upd_some' hil, Option.bind_some, show idx (l.set i y) (j : Int) = some y by rw [idx_nat, List.getElem?_set_ne hne]; exact hy, Option.bind_some, upd_some' (by simpa using hjl), Option.bind_some]
        have inv' : DownInv (swp l i j p y) n j := by
          constructor
          · intro m y' p' h0 hm hmj h1 h2
            by_cases hm1 : m = j
            · subst hm1
              rw [swp_j hjl] at h1; obtain rfl := Option.some.inj h1
              rw [hji, swp_i hil hne] at h2; obtain rfl := Option.some.inj h2
              exact hyp
            · by_cases hm2 : m = i
              · subst hm2
                rw [swp_i hil hne] at h1; obtain rfl := Option.some.inj h1
                rw [swp_o (by omega) (by omega)] at h2
                exact inv.b j _ p' h0 hj0 hj hji hy h2
              · rw [swp_o hm2 hm1] at h1
                by_cases hmi : (m - 1) / 2 = i
                · rw [hmi, swp_i hil hne] at h2; obtain rfl := Option.some.inj h2
                  exact hmin m y' _ h0 hm hmi h1 hy
                · rw [swp_o hmi hmj] at h2
                  exact inv.a m y' p' h0 hm hmi h1 h2
          · intro c y' p' _ h0 hc hcj h1 h2
            rw [swp_o (by omega) (by omega)] at h1
            rw [hji, swp_i hil hne] at h2; obtain rfl := Option.some.inj h2
            exact inv.a c y' _ h0 hc (by omega) h1 (by rw [hcj]; exact hy)
        obtain ⟨l', h1, h2, h3, h4⟩ := ih j (swp l i j p y) (by omega) (by omega) (by rw [swp_len]; exact hn) (.inr hj) (by rw [swp_len]; exact hl) inv'
        exact ⟨l', h1.trans (swp_perm hp hy), fun m hm => by rw [h2 m hm, swp_o (by omega) (by omega)], h3, h4⟩
    unfold downStep
    simp only [e1, e2]
    by_cases hstop : n ≤ 2 * i + 1
    · rw [show (decide (((2 * i + 1 : Nat) : Int) ≥ (n : Int)) || decide (((2 * i + 1 : Nat) : Int) < 0)) = true by rw [decide_eq_true (by omega)]; rfl, cond_true]
      exact ⟨l, List.Perm.refl _, fun _ _ => rfl, fun m y p h0 hm h1 h2 => inv.a m y p h0 hm (by omega) h1 h2, rfl⟩
    · rw [show (decide (((2 * i + 1 : Nat) : Int) ≥ (n : Int)) || decide (((2 * i + 1 : Nat) : Int) < 0)) = false by rw [decide_eq_false (by omega), decide_eq_false (by omega)]; rfl, cond_false]
      have hl1 : 2 * i + 1 < l.length := by omega
      have h1 := List.getElem?_eq_getElem hl1
      by_cases hr : 2 * i + 2 < n
      · have hl2 : 2 * i + 2 < l.length := by omega
        have h2 := List.getElem?_eq_getElem hl2
        generalize l[2 * i + 1] = b at h1
        generalize l[2 * i + 2] = a at h2
        rw [decide_eq_true (by omega), cond_true, idx_some' h2, idx_some' h1, Option.bind_some, Option.bind_some]
        cases hb : lessB a.best b.best with
        | true =>
          rw [cond_true]
          refine key (2 * i + 2) hr (by omega) (by omega) (fun c y z h0 hc hci hcy hz => ?_)
          rw [h2] at hz; obtain rfl := Option.some.inj hz
          rcases (by omega : c = 2 * i + 1 ∨ c = 2 * i + 2) with rfl | rfl
          · rw [h1] at hcy; obtain rfl := Option.some.inj hcy; exact lessB_true hb
          · rw [h2] at hcy; obtain rfl := Option.some.inj hcy; exact leP_refl _
        | false =>
          rw [cond_false]
          refine key (2 * i + 1) (by omega) (by omega) (by omega) (fun c y z h0 hc hci hcy hz => ?_)
          rw [h1] at hz; obtain rfl := Option.some.inj hz
          rcases (by omega : c = 2 * i + 1 ∨ c = 2 * i + 2) with rfl | rfl
          · rw [h1] at hcy; obtain rfl := Option.some.inj hcy; exact leP_refl _
          · rw [h2] at hcy; obtain rfl := Option.some.inj hcy; exact lessB_false hb
      · rw [decide_eq_false (by omega), cond_false]
        refine key (2 * i + 1) (by omega) (by omega) (by omega) (fun c y z h0 hc hci hcy hz => ?_)
        rcases (by omega : c = 2 * i + 1) with rfl
        rw [hcy] at hz; obtain rfl := Option.some.inj hz; exact leP_refl _

theorem pop_eq (k : Nat) (p0 : Lan) (l38 : List arr2_i64) (m : List (Int × Bool)) (rec : List tree_way → List arr2_i64 → List (Int × Bool) → Option (List arr2_i64)) (l : List tree_way) (hne : l ≠ []) (hl : l.length < 1000000) (hk : l.length < k) (hh : Heap l l.length) :
    ∃ x l', l.Perm (x :: l') ∧ Heap l' l'.length ∧ (∀ y ∈ l, leP x.best y.best) ∧ tree_bests_j29 k p0 l38 m rec l ((l.length : Nat) : Int) = tree_bests_j18 k p0 l38 m rec l' x := by
  obtain ⟨N, hN⟩ : ∃ N, l.length = N + 1 := ⟨l.length - 1, by have := List.length_pos_iff.2 hne; omega⟩
  have e1 : wr (((l.length : Nat) : Int) - 1) = (N : Int) := by rw [wr_id (by omega) (by omega)]; omega
  have h0 := List.getElem?_eq_getElem (l := l) (i := 0) (by omega)
  have hn := List.getElem?_eq_getElem (l := l) (i := N) (by omega)
  generalize hx : l[0]'(by omega) = x at h0
  generalize hz : l[N]'(by omega) = z at hn
  have hs0 : (l.set 0 z)[N]? = some z := by
    rcases Nat.eq_zero_or_pos N with rfl | hp
    · rw [List.getElem?_set_self (by omega)]
    · rw [List.getElem?_set_ne (by omega)]; exact hn
  have hrun : tree_bests_j29 k p0 l38 m rec l ((l.length : Nat) : Int) = loopN (fun _ _ => none) (downStep (fun l => tree_bests_j20 k p0 l38 m rec l true) (N : Int)) k ((0 : Nat) : Int) (swp l 0 N x z) := by
    unfold tree_bests_j29
    simp only [e1]
    rw [idx_some' hn, Option.bind_some, show idx l 0 = some x from idx_some' (i := 0) h0, Option.bind_some, Option.bind_some, show upd l 0 z = some (l.set 0 z) from upd_some' (i := 0) (by omega) z, Option.bind_some, idx_some' hs0, Option.bind_some, upd_some' (by simp; omega), Option.bind_some]
    unfold tree_bests_j28
    rw [s27_eq, e1]
    rfl
  have hperm : (swp l 0 N x z).Perm l := swp_perm h0 hn
  obtain ⟨l', h1, h2, h3, h4⟩ := down_loop (fun l => tree_bests_j20 k p0 l38 m rec l true) N k 0 (swp l 0 N x z) (by omega) (by omega) (by rw [swp_len]; omega) (by omega) (by rw [swp_len]; exact hl) ⟨fun q y p hq0 hqn hqi hy hp => by
      rw [swp_o (by omega) (by omega)] at hy hp
      exact hh q y p hq0 (by omega) hy hp, fun c y p h => by omega⟩
  have hlen : l'.length = N + 1 := by rw [h1.length_eq, swp_len, hN]
  have hlast : l'[N]? = some x := by rw [h2 N (Nat.le_refl _), swp_j (by omega)]
  have hsplit : l' = l'.take N ++ [x] := by
    have h5 : l'.drop N = [x] := by
      have h6 : N < l'.length := by omega
      rw [List.drop_eq_getElem_cons h6, List.drop_eq_nil_of_le (by omega)]
      have := List.getElem?_eq_getElem h6
      rw [hlast] at this
      rw [← Option.some.inj this]
    rw [← h5, List.take_append_drop]
  refine ⟨x, l'.take N, ?_, fun q y p hq0 hqn hy hp => ?_, fun y hy => ?_, ?_⟩
  · have h7 : l.Perm (l'.take N ++ [x]) := by rw [← hsplit]; exact (h1.trans hperm).symm
    exact h7.trans List.perm_append_comm
  · rw [List.length_take, hlen] at hqn
    rw [List.getElem?_take, if_pos (by omega)] at hy hp
    exact h3 q y p hq0 (by omega) hy hp
  · obtain ⟨i, hi⟩ := List.getElem?_of_mem hy
    exact heap_least hh h0 i y hi
  · rw [hrun, h4]
    unfold tree_bests_j20 tree_bests_j19
    rw [show wr (((l'.length : Nat) : Int) - 1) = (N : Int) by rw [wr_id (by omega) (by omega)]; omega, idx_some' hlast, Option.bind_some, slc_to (by omega), Option.bind_some]
theorem push_up {β : Type} (K : List tree_way → Option β) (k : Nat) (l : List tree_way) (x : tree_way) (hl : l.length + 1 < 1000000) (hk : l.length < k) (hh : Heap l l.length) :
    ∃ l', l'.Perm (l ++ [x]) ∧ Heap l' l'.length ∧ loopN (fun _ _ => none) (upStep K) k (wr ((((l ++ [x]).length : Nat) : Int) - 1)) (l ++ [x]) = K l' := by
  have e : wr ((((l ++ [x]).length : Nat) : Int) - 1) = (l.length : Int) := by rw [List.length_append, List.length_singleton, wr_id (by omega) (by omega)]; omega
  rw [e]
  exact up_loop K k l.length (l ++ [x]) hk (by simp) (by simpa using hl) (UpInv.push hh x)
end Go.Proofs.Ytdiclbejalelfaa
