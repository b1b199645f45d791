/- The bests of bridges, in plain terms: the least way of all is a bridge's for good. No condition. -/
import Derived.Test.YtdiclbejalelfaaPLan2
import Derived.Test.YtdiclbejalelfaaPHeap2
set_option linter.unusedVariables false
set_option linter.unusedSimpArgs false
set_option linter.unusedSectionVars false
namespace Go.Proofs.Ytdiclbejalelfaa

/-! ### what a plan that may be is like -/
theorem plansB_all {segs : Int} : ∀ {ps : List Plan} {prev : List Int}, plansB segs prev ps = true → ∀ p ∈ ps, planB segs p = true
  | [], _, _, p, hp => by simp at hp
  | q :: ps, prev, h, p, hp => by
    simp only [plansB, Bool.and_eq_true] at h
    rcases List.mem_cons.1 hp with rfl | hp
    · exact h.2.1
    · exact plansB_all h.2.2 p hp
theorem inB_iff {n a b : Int} : inB n a b = true ↔ a ≤ n ∧ n ≤ b := by unfold inB; simp
structure RightL (l : Lan) : Prop where
  segs : 1 ≤ l.Segs ∧ l.Segs ≤ 8
  plans : l.Plans.length ≤ 6
  id : ∀ p ∈ l.Plans, 0 ≤ p.ID ∧ p.ID ≤ 65535
  ports : ∀ p ∈ l.Plans, 1 ≤ p.Ports.length ∧ p.Ports.length ≤ 8
  seg : ∀ p ∈ l.Plans, ∀ x ∈ p.Ports, inB x.Seg 0 (wr (l.Segs - 1)) = true
  cost : ∀ p ∈ l.Plans, ∀ x ∈ p.Ports, 1 ≤ x.Cost ∧ x.Cost ≤ 1000
theorem rightL {l : Lan} (h : rightB l = true) : RightL l := by
  unfold rightB at h
  simp only [Bool.and_eq_true, inB_iff, decide_eq_true_eq] at h
  obtain ⟨h1, h2, h3, h4, h5⟩ := h
  have key : ∀ p ∈ l.Plans, (0 ≤ p.ID ∧ p.ID ≤ 65535) ∧ (1 ≤ p.Ports.length ∧ p.Ports.length ≤ 8) ∧ ∀ x ∈ p.Ports, linkB l.Segs x = true := by
    intro p hp
    have := plansB_all h4 p hp
    unfold planB at this
    simp only [Bool.and_eq_true, inB_iff] at this
    obtain ⟨k1, k2, k3⟩ := this
    refine ⟨k1, by omega, fun x hx => ?_⟩
    cases hc : linkB l.Segs x with
    | true => rfl
    | false =>
      have : (p.Ports.any fun x => !linkB l.Segs x) = true := List.any_eq_true.2 ⟨x, hx, by rw [hc]; rfl⟩
      rw [this] at k3; simp at k3
  refine ⟨h1, by omega, fun p hp => (key p hp).1, fun p hp => (key p hp).2.1, fun p hp x hx => ?_, fun p hp x hx => ?_⟩
  · have := (key p hp).2.2 x hx
    unfold linkB at this
    simp only [Bool.and_eq_true] at this
    exact this.1
  · have := (key p hp).2.2 x hx
    unfold linkB at this
    simp only [Bool.and_eq_true, inB_iff] at this
    exact this.2

/-! ### what is pushed -/
def doneB (m : List (Int × Bool)) (i : Int) : Bool := (mget m i).getD false
theorem done_set (m : List (Int × Bool)) (a i : Int) : doneB (mset m a true) i = if a = i then true else doneB m i := by
  unfold doneB
  rw [mget_set]
  split <;> rfl
def costOf (l : Lan) (q : arr2_i64) : Int := match l.Plans[q.x0.toNat]? with
  | some p => match p.Ports[q.x1.toNat]? with
    | some y => y.Cost
    | none => 0
  | none => 0
/-- The way by which a bridge's best goes on. -/
def wayTo (l : Lan) (b : arr2_i64) (q : arr2_i64) : tree_way := ⟨⟨b.x0, b.x1 + costOf l q⟩, q.x0⟩
structure Grow (l : Lan) (b : arr2_i64) (m : List (Int × Bool)) (must : arr2_i64 → Prop) (n : Nat) (Q Q' : List tree_way) : Prop where
  keep : ∀ e ∈ Q, e ∈ Q'
  only : ∀ e ∈ Q', e ∈ Q ∨ ∃ seg q, q ∈ onL l seg ∧ doneB m q.x0 = false ∧ e = wayTo l b q
  must : ∀ q, must q → doneB m q.x0 = false → wayTo l b q ∈ Q'
  len : Q'.length ≤ Q.length + n
  heap : Heap Q' Q'.length
section
variable {l : Lan} (hl : Small l) (hr : RightL l) {k : Nat} (hk : 7000 ≤ k)
include hl hr hk
theorem ins_eq (b : arr2_i64) (hb : 0 ≤ b.x1 ∧ b.x1 ≤ 100000) (m : List (Int × Bool)) (e : tree_way) (he : e.best = b) (seg : Int) (q : arr2_i64) (hq : q ∈ onL l seg) (i : Nat) (hi : i < 1000) (Q : List tree_way) (hQ : Q.length + 1 < 7000) (hh : Heap Q Q.length) (rec : Int → List tree_way → Option (List arr2_i64)) (up : Bool) :
    ∃ Q', Grow l b m (fun z => z = q ∧ up = true) 1 Q Q' ∧ (bif up then tree_bests_j15 k l e (i : Int) Q rec q (!(doneB m q.x0)) else tree_bests_j15 k l e (i : Int) Q rec q false) = rec ((i + 1 : Nat) : Int) Q' := by
  have ei : wr ((i : Int) + 1) = ((i + 1 : Nat) : Int) := by rw [wr_id (by omega) (by omega)]; omega
  have stay : ∀ (h : ¬ (up = true ∧ doneB m q.x0 = false)), Grow l b m (fun z => z = q ∧ up = true) 1 Q Q := fun h =>
    ⟨fun e he => he, fun e he => .inl he, fun z hz hd => absurd ⟨hz.2, hz.1 ▸ hd⟩ h, by omega, hh⟩
  have hno : tree_bests_j15 k l e (i : Int) Q rec q false = rec ((i + 1 : Nat) : Int) Q := by
    unfold tree_bests_j15 tree_bests_j5
    rw [cond_false, ei]
  cases up with
  | false => exact ⟨Q, stay (by simp), by rw [cond_false]; exact hno⟩
  | true =>
    cases hd : doneB m q.x0 with
    | true => exact ⟨Q, stay (by simp [hd]), by rw [cond_true]; exact hno⟩
    | false =>
      rw [cond_true]
      obtain ⟨a, p, j, y, h1, h2, h3, h4, rfl⟩ := (mem_onL l seg q).1 hq
      have hc : costOf l ⟨(a : Int), (j : Int)⟩ = y.Cost := by
        unfold costOf
        simp only [Int.toNat_natCast, h1, h2]
      have hy := hr.cost p (List.mem_of_getElem? h1) y (List.mem_of_getElem? h2)
      have hrun : tree_bests_j15 k l e (i : Int) Q rec ⟨(a : Int), (j : Int)⟩ (!false) = loopN (fun _ _ => none) (upStep fun l => rec ((i + 1 : Nat) : Int) l) k (wr ((((Q ++ [wayTo l b ⟨(a : Int), (j : Int)⟩]).length : Nat) : Int) - 1)) (Q ++ [wayTo l b ⟨(a : Int), (j : Int)⟩]) := by
        unfold tree_bests_j15
        rw [Bool.not_false, cond_true, idx_nat, h1, Option.bind_some, idx_nat, h2, Option.bind_some, push_lt (by omega), Option.bind_some]
        unfold tree_bests_j14 tree_bests_j13
        rw [s12_eq, ei, he, wr_id (x := b.x1 + y.Cost) (by omega) (by omega)]
        unfold wayTo
        rw [hc]
      obtain ⟨Q', h5, h6, h7⟩ := push_up (fun l => rec ((i + 1 : Nat) : Int) l) k Q (wayTo l b ⟨(a : Int), (j : Int)⟩) (by omega) (by omega) hh
      refine ⟨Q', ⟨fun z hz => h5.mem_iff.2 (List.mem_append_left _ hz), fun z hz => ?_, fun z hz _ => ?_, ?_, h6⟩, by rw [hrun, h7]⟩
      · rcases List.mem_append.1 (h5.mem_iff.1 hz) with hz | hz
        · exact .inl hz
        · exact .inr ⟨seg, _, hq, hd, List.mem_singleton.1 hz⟩
      · rw [hz.1]; exact h5.mem_iff.2 (by simp)
      · rw [h5.length_eq]; simp
theorem segLoop (b : arr2_i64) (hb : 0 ≤ b.x1 ∧ b.x1 ≤ 100000) (m m41 : List (Int × Bool)) (e : tree_way) (he : e.best = b) (hm : mset m41 e.at_ true = m) (seg : Int) (x : Link) (hs : List Host) (z : Int) (i0 : Nat) (hi0 : i0 < 1000) (rec : Int → List tree_way → Option (List arr2_i64)) (Q : List tree_way) (hQ : Q.length + 100 < 7000) (hh : Heap Q Q.length) :
    ∃ Q', Grow l b m (fun q => q ∈ onL l seg ∧ x.Up = true) 80 Q Q' ∧ loopN (fun _ _ => none) (tree_bests_s16 k l m41 e (i0 : Int) rec x (hs, onL l seg, z)) k 0 Q = rec ((i0 + 1 : Nat) : Int) Q' := by
  have h80 := onL_len hl seg
  have key := loop_ind (z := (fun _ _ => none : Int → List tree_way → Option (List arr2_i64))) (s := tree_bests_s16 k l m41 e (i0 : Int) rec x (hs, onL l seg, z)) (fun q f => ∀ (i : Nat) (Q : List tree_way), i ≤ (onL l seg).length → (onL l seg).length - i < q → Q.length + ((onL l seg).length - i) + 1 < 7000 → Heap Q Q.length →
      ∃ Q', Grow l b m (fun q => q ∈ (onL l seg).drop i ∧ x.Up = true) ((onL l seg).length - i) Q Q' ∧ f i Q = rec ((i0 + 1 : Nat) : Int) Q')
    (fun _ _ _ h => by omega) (fun q f ih i Q hi hq hQ hh => by
      unfold tree_bests_s16
      simp only
      by_cases hlt : i < (onL l seg).length
      · rw [decide_eq_true (by omega), cond_true, idx_lt hlt, Option.bind_some, hm]
        have hdrop : (onL l seg).drop i = (onL l seg)[i] :: (onL l seg).drop (i + 1) := (List.getElem_cons_drop hlt).symm
        obtain ⟨Q1, g1, h1⟩ := ins_eq hl hr hk b hb m e he seg (onL l seg)[i] (List.getElem_mem hlt) i (by omega) Q (by omega) hh f x.Up
        obtain ⟨Q2, g2, h2⟩ := ih (i + 1) Q1 (by omega) (by omega) (by have := g1.len; omega) g1.heap
        refine ⟨Q2, ⟨fun e he => g2.keep e (g1.keep e he), fun e he => ?_, fun z hz hd => ?_, ?_, g2.heap⟩, ?_⟩
        · rcases g2.only e he with h | h
          · exact g1.only e h
          · exact .inr h
        · rw [hdrop] at hz
          rcases List.mem_cons.1 hz.1 with rfl | h
          · exact g2.keep _ (g1.must _ ⟨rfl, hz.2⟩ hd)
          · exact g2.must z ⟨h, hz.2⟩ hd
        · have := g1.len; have := g2.len; omega
        · rw [← h2, ← h1]; rfl
      · rw [decide_eq_false (by omega), cond_false, List.drop_eq_nil_of_le (by omega)]
        refine ⟨Q, ⟨fun e he => he, fun e he => .inl he, fun z hz _ => by simp at hz, by omega, hh⟩, ?_⟩
        unfold tree_bests_j4
        rw [show wr ((i0 : Int) + 1) = ((i0 + 1 : Nat) : Int) by rw [wr_id (by omega) (by omega)]; omega]) k
  obtain ⟨Q', g, h⟩ := key 0 Q (Nat.zero_le _) (by omega) (by omega) hh
  rw [List.drop_zero] at g
  exact ⟨Q', ⟨g.keep, g.only, g.must, by have := g.len; omega, g.heap⟩, h⟩
theorem portLoop (hrb : rightB l = true) (b : arr2_i64) (hb : 0 ≤ b.x1 ∧ b.x1 ≤ 100000) (m m41 : List (Int × Bool)) (e : tree_way) (he : e.best = b) (hm : mset m41 e.at_ true = m) (p : Plan) (hp : p ∈ l.Plans) (out : List arr2_i64) (rec : List tree_way → List arr2_i64 → List (Int × Bool) → Option (List arr2_i64)) (Q : List tree_way) (hQ : Q.length + 800 < 6900) (hh : Heap Q Q.length) :
    ∃ Q', Grow l b m (fun q => ∃ x ∈ p.Ports, x.Up = true ∧ q ∈ onL l x.Seg) 800 Q Q' ∧ loopN (fun _ _ => none) (tree_bests_s17 k l m41 rec e out p) k 0 Q = rec Q' out m := by
  have h10 := hl.ports p hp
  have key := loop_ind (z := (fun _ _ => none : Int → List tree_way → Option (List arr2_i64))) (s := tree_bests_s17 k l m41 rec e out p) (fun q f => ∀ (i : Nat) (Q : List tree_way), i ≤ p.Ports.length → p.Ports.length - i < q → Q.length + 80 * (p.Ports.length - i) < 6900 → Heap Q Q.length →
      ∃ Q', Grow l b m (fun q => ∃ x ∈ p.Ports.drop i, x.Up = true ∧ q ∈ onL l x.Seg) (80 * (p.Ports.length - i)) Q Q' ∧ f i Q = rec Q' out m)
    (fun _ _ _ h => by omega) (fun q f ih i Q hi hq hQ hh => by
      unfold tree_bests_s17
      by_cases hlt : i < p.Ports.length
      · rw [decide_eq_true (by omega), cond_true, idx_lt hlt, Option.bind_some]
        have hdrop : p.Ports.drop i = p.Ports[i] :: p.Ports.drop (i + 1) := (List.getElem_cons_drop hlt).symm
        obtain ⟨hs, hon⟩ := on_eq k (by omega) l hl hrb p.Ports[i].Seg (hr.seg p hp _ (List.getElem_mem hlt))
        rw [hon, Option.bind_some]
        obtain ⟨Q1, g1, h1⟩ := segLoop hl hr hk b hb m m41 e he hm p.Ports[i].Seg p.Ports[i] hs 0 i (by omega) f Q (by omega) hh
        obtain ⟨Q2, g2, h2⟩ := ih (i + 1) Q1 (by omega) (by omega) (by have := g1.len; omega) g1.heap
        refine ⟨Q2, ⟨fun e he => g2.keep e (g1.keep e he), fun e he => ?_, fun z hz hd => ?_, ?_, g2.heap⟩, ?_⟩
        · rcases g2.only e he with h | h
          · exact g1.only e h
          · exact .inr h
        · obtain ⟨x, hx, hu, hz⟩ := hz
          rw [hdrop] at hx
          rcases List.mem_cons.1 hx with rfl | h
          · exact g2.keep _ (g1.must _ ⟨hz, hu⟩ hd)
          · exact g2.must z ⟨x, h, hu, hz⟩ hd
        · have := g1.len; have := g2.len; omega
        · rw [← h2, ← h1]
      · rw [decide_eq_false (by omega), cond_false, List.drop_eq_nil_of_le (by omega)]
        refine ⟨Q, ⟨fun e he => he, fun e he => .inl he, fun z hz _ => by obtain ⟨x, hx, _⟩ := hz; simp at hx, by omega, hh⟩, ?_⟩
        unfold tree_bests_j3 tree_bests_j2
        rw [hm]) k
  obtain ⟨Q', g, h⟩ := key 0 Q (Nat.zero_le _) (by omega) (by omega) hh
  rw [List.drop_zero] at g
  exact ⟨Q', ⟨g.keep, g.only, g.must, by have := g.len; omega, g.heap⟩, h⟩
end
end Go.Proofs.Ytdiclbejalelfaa
