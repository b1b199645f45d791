/- container/heap in plain terms: what is pushed lies there, in order; what is popped is the least. No condition. -/
import Derived.Test.YtdiclbejalelfaaTD
import Derived.Test.YtdiclbejalelfaaFwS
set_option linter.unusedVariables false
set_option linter.unusedSimpArgs false
namespace Go.Proofs.Ytdiclbejalelfaa

def lessB (a b : arr2_i64) : Bool := decide (a.x0 < b.x0) || (a.x0 == b.x0 && decide (a.x1 < b.x1))
def leP (a b : arr2_i64) : Prop := a.x0 < b.x0 ∨ a.x0 = b.x0 ∧ a.x1 ≤ b.x1
theorem leP_refl (a : arr2_i64) : leP a a := .inr ⟨rfl, Int.le_refl _⟩
theorem leP_trans {a b c : arr2_i64} (h : leP a b) (k : leP b c) : leP a c := by unfold leP at *; omega
theorem lessB_true {a b : arr2_i64} (h : lessB a b = true) : leP a b := by
  unfold lessB at h; unfold leP
  simp only [Bool.or_eq_true, Bool.and_eq_true, decide_eq_true_eq, beq_iff_eq] at h; omega
theorem lessB_false {a b : arr2_i64} (h : lessB a b = false) : leP b a := by
  unfold lessB at h; unfold leP
  simp only [Bool.or_eq_false_iff, Bool.and_eq_false_iff, decide_eq_false_iff_not, beq_eq_false_iff_ne] at h; omega
theorem less_eq (k : Nat) (a b : arr2_i64) : tree_best_less k a b = some (lessB a b) := by
  unfold tree_best_less tree_best_less_j1 lessB
  by_cases h : a.x0 < b.x0
  · simp [h]
  · cases h2 : a.x0 == b.x0 <;> simp [h]

/-- Each is at least what lies above it. -/
def Heap (l : List tree_way) (n : Nat) : Prop := ∀ (i : Nat) (y p : tree_way), 0 < i → i < n → l[i]? = some y → l[(i - 1) / 2]? = some p → leP p.best y.best
theorem heap_least {l : List tree_way} (h : Heap l l.length) {x : tree_way} (hx : l[0]? = some x) : ∀ (i : Nat) (y : tree_way), l[i]? = some y → leP x.best y.best := by
  intro i
  induction i using Nat.strongRecOn with
  | ind i ih =>
    intro y hy
    rcases Nat.eq_zero_or_pos i with rfl | hp
    · rw [hx] at hy; obtain rfl := Option.some.inj hy; exact leP_refl _
    · have hl : i < l.length := (List.getElem?_eq_some_iff.1 hy).1
      have hq : (i - 1) / 2 < l.length := by omega
      exact leP_trans (ih ((i - 1) / 2) (by omega) _ (List.getElem?_eq_getElem hq)) (h i y _ hp hl hy (List.getElem?_eq_getElem hq))

/-- Two change places. -/
def swp (l : List tree_way) (i j : Nat) (a b : tree_way) : List tree_way := (l.set i b).set j a
theorem swp_len (l : List tree_way) (i j : Nat) (a b : tree_way) : (swp l i j a b).length = l.length := by simp [swp]
theorem swp_j {l : List tree_way} {i j : Nat} {a b : tree_way} (hj : j < l.length) : (swp l i j a b)[j]? = some a := by
  unfold swp; rw [List.getElem?_set_self (by simpa using hj)]
theorem swp_i {l : List tree_way} {i j : Nat} {a b : tree_way} (hi : i < l.length) (hne : i ≠ j) : (swp l i j a b)[i]? = some b := by
  unfold swp; rw [List.getElem?_set_ne (Ne.symm hne), List.getElem?_set_self hi]
theorem swp_o {l : List tree_way} {i j m : Nat} {a b : tree_way} (h1 : m ≠ i) (h2 : m ≠ j) : (swp l i j a b)[m]? = l[m]? := by
  unfold swp; rw [List.getElem?_set_ne (Ne.symm h2), List.getElem?_set_ne (Ne.symm h1)]
theorem swp_perm {l : List tree_way} {i j : Nat} {a b : tree_way} (hi : l[i]? = some a) (hj : l[j]? = some b) : (swp l i j a b).Perm l := by
  obtain ⟨h1, rfl⟩ := List.getElem?_eq_some_iff.1 hi
  obtain ⟨h2, rfl⟩ := List.getElem?_eq_some_iff.1 hj
  exact List.set_set_perm h1 h2
theorem idx_some' {l : List tree_way} {i : Nat} {a : tree_way} (h : l[i]? = some a) : idx l (i : Int) = some a := by rw [idx_nat]; exact h
theorem upd_some' {l : List tree_way} {i : Nat} (h : i < l.length) (a : tree_way) : upd l (i : Int) a = some (l.set i a) := upd_nat h

/-! ### up -/
def upStep {β : Type} (K : List tree_way → Option β) (rec : Int → List tree_way → Option β) (j : Int) (l : List tree_way) : Option β :=
  (iquo (wr (j - 1)) 2).bind fun i => bif i == j then K l else ((idx l j).bind fun y => (idx l i).bind fun p => bif !(lessB y.best p.best) then K l else
    ((idx l j).bind fun y1 => (idx l i).bind fun y2 => (idx l i).bind fun _ => (upd l i y1).bind fun l1 => (idx l1 j).bind fun _ => (upd l1 j y2).bind fun l2 => rec i l2))
theorem s12_eq (k : Nat) (i : Int) (rec : Int → List tree_way → Option (List arr2_i64)) : tree_bests_s12 k i rec = upStep fun l => rec (wr (i + 1)) l := by
  funext r j l
  unfold tree_bests_s12 upStep tree_bests_j11 tree_bests_j10 tree_bests_j9 tree_bests_j8 tree_bests_j7 tree_bests_j6 tree_bests_j5
  simp only [less_eq, Option.bind_some, cond_true]
theorem s39_eq (k : Nat) (i : Int) (rec : Int → List tree_way → Option (List arr2_i64)) : tree_bests_s39 k i rec = upStep fun l => rec (wr (i + 1)) l := by
  funext r j l
  unfold tree_bests_s39 upStep tree_bests_j38 tree_bests_j37 tree_bests_j36 tree_bests_j35 tree_bests_j34 tree_bests_j33
  simp only [less_eq, Option.bind_some, cond_true]
theorem iquo2 {j : Nat} (h0 : 0 < j) (h : j < 1000000) : iquo (wr ((j : Int) - 1)) 2 = some (((j - 1) / 2 : Nat) : Int) := by
  have h1 : ((j : Int) - 1) = ((j - 1 : Nat) : Int) := by omega
  rw [h1, wr_id (by omega) (by omega)]
  unfold iquo
  rw [if_neg (by omega)]
  have h2 : ((j - 1 : Nat) : Int).tdiv 2 = (((j - 1) / 2 : Nat) : Int) := rfl
  rw [h2]
  exact congrArg some (wr_id (by omega) (by omega))
structure UpInv (l : List tree_way) (j : Nat) : Prop where
  a : ∀ (i : Nat) (y p : tree_way), 0 < i → i ≠ j → l[i]? = some y → l[(i - 1) / 2]? = some p → leP p.best y.best
  b : ∀ (c : Nat) (y p : tree_way), 0 < j → 0 < c → (c - 1) / 2 = j → l[c]? = some y → l[(j - 1) / 2]? = some p → leP p.best y.best
theorem up_loop {β : Type} (K : List tree_way → Option β) : ∀ (n j : Nat) (l : List tree_way), j < n → j < l.length → l.length < 1000000 → UpInv l j →
    ∃ l', l'.Perm l ∧ Heap l' l'.length ∧ loopN (fun _ _ => none) (upStep K) n (j : Int) l = K l' := by
  intro n
  induction n with
  | zero => intro j l h; omega
  | succ n ih =>
    intro j l hn hj hl inv
    rw [loopN]
    generalize hrec : loopN (fun _ _ => none) (upStep K) n = rec at ih
    rcases Nat.eq_zero_or_pos j with rfl | hp
    · refine ⟨l, List.Perm.refl _, fun i y p h0 _ h1 h2 => inv.a i y p h0 (by omega) h1 h2, ?_⟩
      have : iquo (wr (((0 : Nat) : Int) - 1)) 2 = some 0 := by rw [wr_id (by omega) (by omega)]; rfl
      unfold upStep
      rw [this]; rfl
    · have hne : ((((j - 1) / 2 : Nat) : Int) == (j : Int)) = false := by simp; omega
      have hq : (j - 1) / 2 < l.length := by omega
      have hy := List.getElem?_eq_getElem hj
      have hpq := List.getElem?_eq_getElem hq
      generalize l[j] = y at hy
      generalize l[(j - 1) / 2] = p at hpq
      unfold upStep
      rw [iquo2 hp (by omega)]
      simp only [Option.bind_some, hne, cond_false, idx_some' hy, idx_some' hpq]
      cases hb : lessB y.best p.best with
      | false =>
        refine ⟨l, List.Perm.refl _, fun i y' p' h0 _ h1 h2 => ?_, rfl⟩
        rcases Nat.decEq i j with hne | rfl
        · exact inv.a i y' p' h0 hne h1 h2
        · rw [hy] at h1; rw [hpq] at h2
          obtain rfl := Option.some.inj h1; obtain rfl := Option.some.inj h2
          exact lessB_false hb
      | true =>
        have hyp := lessB_true hb
        simp only [Bool.not_true, cond_false]
        rw [upd_some' hq]
        simp only [Option.bind_some]
        rw [show idx (l.set ((j - 1) / 2) y) (j : Int) = some y by rw [idx_nat, List.getElem?_set_ne (by omega)]; exact hy, Option.bind_some, upd_some' (by simpa using hj), Option.bind_some]
        have hij : (j - 1) / 2 ≠ j := by omega
        have inv' : UpInv (swp l ((j - 1) / 2) j p y) ((j - 1) / 2) := by
          constructor
          · intro i y' p' h0 hi h1 h2
            by_cases hij' : i = j
            · subst hij'
              rw [swp_j hj] at h1; obtain rfl := Option.some.inj h1
              rw [swp_i hq hij] at h2; obtain rfl := Option.some.inj h2
              exact hyp
            · rw [swp_o hi hij'] at h1
              by_cases hpj : (i - 1) / 2 = j
              · rw [hpj, swp_j hj] at h2; obtain rfl := Option.some.inj h2
                exact inv.b i y' _ hp h0 hpj h1 hpq
              · by_cases hpi : (i - 1) / 2 = (j - 1) / 2
                · rw [hpi, swp_i hq hij] at h2; obtain rfl := Option.some.inj h2
                  exact leP_trans hyp (inv.a i y' _ h0 hij' h1 (by rw [hpi]; exact hpq))
                · rw [swp_o hpi hpj] at h2
                  exact inv.a i y' p' h0 hij' h1 h2
          · intro c y' p' h0 hc hcp h1 h2
            have hpp : ((j - 1) / 2 - 1) / 2 ≠ j := by omega
            have hpp2 : ((j - 1) / 2 - 1) / 2 ≠ (j - 1) / 2 := by omega
            rw [swp_o hpp2 hpp] at h2
            have h4 := inv.a ((j - 1) / 2) p p' h0 hij hpq h2
            by_cases hcj : c = j
            · subst hcj
              rw [swp_j hj] at h1; obtain rfl := Option.some.inj h1
              exact h4
            · rw [swp_o (by omega) hcj] at h1
              exact leP_trans h4 (inv.a c y' p hc hcj h1 (by rw [hcp]; exact hpq))
        obtain ⟨l', h1, h2, h3⟩ := ih ((j - 1) / 2) (swp l ((j - 1) / 2) j p y) (by omega) (by rw [swp_len]; exact hq) (by rw [swp_len]; exact hl) inv'
        exact ⟨l', h1.trans (swp_perm hpq hy), h2, h3⟩
theorem UpInv.push {l : List tree_way} (h : Heap l l.length) (x : tree_way) : UpInv (l ++ [x]) l.length := by
  constructor
  · intro i y p h0 hi h1 h2
    have hlt : i < l.length := by
      have := (List.getElem?_eq_some_iff.1 h1).1
      simp at this; omega
    rw [List.getElem?_append_left hlt] at h1
    rw [List.getElem?_append_left (by omega)] at h2
    exact h i y p h0 hlt h1 h2
  · intro c y p _ h0 hc h1 h2
    have := (List.getElem?_eq_some_iff.1 h1).1
    simp at this
    omega
end Go.Proofs.Ytdiclbejalelfaa
