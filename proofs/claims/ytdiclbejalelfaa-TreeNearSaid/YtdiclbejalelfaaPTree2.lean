/- The bests of bridges, in plain terms: what holds round by round, and in the end. No condition. -/
import Derived.Test.YtdiclbejalelfaaPTree
set_option linter.unusedVariables false
set_option linter.unusedSimpArgs false
set_option linter.unusedSectionVars false
namespace Go.Proofs.Ytdiclbejalelfaa

theorem countP_lt {α : Type} (p q : α → Bool) : ∀ (xs : List α), (∀ x ∈ xs, q x = true → p x = true) → ∀ a ∈ xs, p a = true → q a = false → xs.countP q + 1 ≤ xs.countP p
  | [], _, a, ha, _, _ => by simp at ha
  | x :: xs, h, a, ha, hp, hq => by
    have hle : xs.countP q ≤ xs.countP p := List.countP_mono_left (fun y hy => h y (List.mem_cons_of_mem _ hy))
    rw [List.countP_cons, List.countP_cons]
    rcases List.mem_cons.1 ha with rfl | ha
    · rw [hp, hq]; simp; omega
    · have := countP_lt p q xs (fun y hy => h y (List.mem_cons_of_mem _ hy)) a ha hp hq
      cases hx : q x with
      | false => simp; omega
      | true => rw [h x List.mem_cons_self hx]; simp; omega
def undone (l : Lan) (m : List (Int × Bool)) : Nat := (List.range l.Plans.length).countP fun i : Nat => !(doneB m (i : Int))
theorem undone_le (l : Lan) (m : List (Int × Bool)) : undone l m ≤ l.Plans.length := by
  unfold undone
  have := List.countP_le_length (p := fun i : Nat => !(doneB m (i : Int))) (l := List.range l.Plans.length)
  simpa using this
theorem undone_set (l : Lan) (m : List (Int × Bool)) (a : Nat) (ha : a < l.Plans.length) (hd : doneB m (a : Int) = false) : undone l (mset m (a : Int) true) + 1 ≤ undone l m := by
  refine countP_lt _ _ _ (fun x _ hx => ?_) a (by simpa using ha) (by rw [hd]; rfl) ?_
  · rw [done_set] at hx
    split at hx
    · simp at hx
    · exact hx
  · rw [done_set, if_pos rfl]; rfl
/-- Two ports that are up on one segment. -/
def Edge (l : Lan) (a b : Nat) (y : Link) : Prop := ∃ (p q : Plan) (x : Link) (j : Nat), l.Plans[a]? = some p ∧ l.Plans[b]? = some q ∧ x ∈ p.Ports ∧ x.Up = true ∧ q.Ports[j]? = some y ∧ y.Up = true ∧ y.Seg = x.Seg
/-- What a bridge's best is like. -/
structure BestOk (l : Lan) (w : arr2_i64) (i : Nat) (bd : Int) : Prop where
  cost : 0 ≤ w.x1 ∧ w.x1 ≤ bd
  low : ∀ p, l.Plans[i]? = some p → leP w ⟨p.ID, 0⟩
  zero : w.x1 = 0 → ∀ p, l.Plans[i]? = some p → w.x0 = p.ID
def far (w : arr2_i64) (y : Link) : arr2_i64 := ⟨w.x0, w.x1 + y.Cost⟩
structure TInv (l : Lan) (Q : List tree_way) (out : List arr2_i64) (m : List (Int × Bool)) : Prop where
  heap : Heap Q Q.length
  len : out.length = l.Plans.length
  at_ : ∀ e ∈ Q, ∃ i : Nat, e.at_ = (i : Int) ∧ i < l.Plans.length
  cost : ∀ e ∈ Q, 0 ≤ e.best.x1 ∧ e.best.x1 ≤ 1000 * ((l.Plans.length : Int) - undone l m)
  zero : ∀ e ∈ Q, e.best.x1 = 0 → ∀ (i : Nat) p, e.at_ = (i : Int) → l.Plans[i]? = some p → e.best.x0 = p.ID
  init : ∀ (i : Nat) p, l.Plans[i]? = some p → doneB m (i : Int) = false → ∃ e ∈ Q, e.at_ = (i : Int) ∧ leP e.best ⟨p.ID, 0⟩
  edge : ∀ (a b : Nat) y w, doneB m (a : Int) = true → Edge l a b y → out[a]? = some w → (doneB m (b : Int) = true ∧ ∀ v, out[b]? = some v → leP v (far w y)) ∨ ∃ e ∈ Q, e.at_ = (b : Int) ∧ leP e.best (far w y)
  mono : ∀ (a : Nat) w, doneB m (a : Int) = true → out[a]? = some w → ∀ e ∈ Q, leP w e.best
  outOk : ∀ (a : Nat) w, doneB m (a : Int) = true → out[a]? = some w → BestOk l w a (1000 * ((l.Plans.length : Int) - undone l m))
structure Final (l : Lan) (out : List arr2_i64) : Prop where
  len : out.length = l.Plans.length
  ok : ∀ (a : Nat) w, out[a]? = some w → BestOk l w a 8000
  edge : ∀ (a b : Nat) y w v, Edge l a b y → out[a]? = some w → out[b]? = some v → leP v (far w y)
theorem far_le {w : arr2_i64} {y : Link} (h : 0 ≤ y.Cost) : leP w (far w y) := .inr ⟨rfl, by show w.x1 ≤ w.x1 + y.Cost; omega⟩
section
variable {l : Lan} (hl : Small l) (hrb : rightB l = true) {k : Nat} (hk : 7000 ≤ k)
include hl hrb hk
theorem bests_run : ∀ (n : Nat) (Q : List tree_way) (out : List arr2_i64) (m : List (Int × Bool)), TInv l Q out m → Q.length + 801 * undone l m < n → Q.length + 801 * undone l m < 6000 →
    ∃ out', Final l out' ∧ loopN (fun _ _ _ => none) (tree_bests_s31 k l) n Q out m = some out' := by
  have hr := rightL hrb
  intro n
  induction n with
  | zero => intro Q out m _ h; omega
  | succ n ih =>
    intro Q out m ti hn hbig
    have hul := undone_le l m
    have hN := hr.plans
    rw [loopN]
    generalize hrec : loopN (fun _ _ _ => none) (tree_bests_s31 k l) n = rec at ih
    unfold tree_bests_s31 tree_bests_j30
    by_cases hQ : Q = []
    · subst hQ
      have hall : ∀ (a : Nat), a < l.Plans.length → doneB m (a : Int) = true := fun a ha => by
        cases hd : doneB m (a : Int) with
        | true => rfl
        | false =>
          obtain ⟨e, he, _⟩ := ti.init a _ (List.getElem?_eq_getElem ha) hd
          simp at he
      have hlt : ∀ {a : Nat} {w : arr2_i64}, out[a]? = some w → a < l.Plans.length := fun h => by rw [← ti.len]; exact (List.getElem?_eq_some_iff.1 h).1
      refine ⟨out, ⟨ti.len, fun a w hw => ?_, fun a b y w v he hw hv => ?_⟩, rfl⟩
      · obtain ⟨h1, h2, h3⟩ := ti.outOk a w (hall a (hlt hw)) hw
        exact ⟨by omega, h2, h3⟩
      · rcases ti.edge a b y w (hall a (hlt hw)) he hw with ⟨_, h⟩ | ⟨e, he, _⟩
        · exact h v hv
        · simp at he
    · have hpos := List.length_pos_iff.2 hQ
      rw [decide_eq_true (by omega), cond_true]
      obtain ⟨x, Q', hperm, hheap, hmin, hpop⟩ := pop_eq k l out m rec Q hQ (by omega) (by omega) ti.heap
      rw [hpop]
      have hxQ : x ∈ Q := hperm.mem_iff.2 List.mem_cons_self
      have hQQ : ∀ e, e ∈ Q ↔ e = x ∨ e ∈ Q' := fun e => by rw [hperm.mem_iff, List.mem_cons]
      have hlen : Q.length = Q'.length + 1 := by rw [hperm.length_eq, List.length_cons]
      obtain ⟨a, hxa, haN⟩ := ti.at_ x hxQ
      unfold tree_bests_j18
      rw [show (mget m x.at_).getD false = doneB m x.at_ from rfl, hxa]
      cases hd : doneB m (a : Int) with
      | true =>
        rw [cond_true]
        unfold tree_bests_j2
        refine ih Q' out m ⟨hheap, ti.len, fun e he => ti.at_ e ((hQQ e).2 (.inr he)), fun e he => ti.cost e ((hQQ e).2 (.inr he)), fun e he => ti.zero e ((hQQ e).2 (.inr he)), fun i p hp hdi => ?_, fun c b y w hdc hed hw => ?_, fun c w hdc hw e he => ti.mono c w hdc hw e ((hQQ e).2 (.inr he)), ti.outOk⟩ (by omega) (by omega)
        · obtain ⟨e, he, h1, h2⟩ := ti.init i p hp hdi
          rcases (hQQ e).1 he with rfl | he
          · rw [hxa] at h1
            rw [← h1, hd] at hdi; cases hdi
          · exact ⟨e, he, h1, h2⟩
        · rcases ti.edge c b y w hdc hed hw with h | ⟨e, he, h1, h2⟩
          · exact .inl h
          · rcases (hQQ e).1 he with rfl | he
            · rw [hxa] at h1
              refine .inl ⟨by rw [← h1]; exact hd, fun v hv => ?_⟩
              have hab : a = b := by omega
              subst hab
              exact leP_trans (ti.mono a v hd hv e hxQ) h2
            · exact .inr ⟨e, he, h1, h2⟩
      | false =>
        rw [cond_false]
        have hpa := List.getElem?_eq_getElem haN
        generalize hP : l.Plans[a] = P at hpa
        have hPm : P ∈ l.Plans := List.mem_of_getElem? hpa
        have haO : a < out.length := by rw [ti.len]; exact haN
        have hu := undone_set l m a haN hd
        have hcost := ti.cost x hxQ
        rw [idx_lt haO, Option.bind_some, upd_nat haO, Option.bind_some, idx_nat, hpa, Option.bind_some]
        obtain ⟨Q2, g, hport⟩ := portLoop hl hr hk hrb x.best ⟨hcost.1, by omega⟩ (mset m (a : Int) true) m x rfl (by rw [hxa]) P hPm (out.set a ⟨x.best.x0, x.best.x1⟩) rec Q' (by omega) hheap
        rw [hport]
        have hset : ∀ (b : Nat) v, (out.set a x.best)[b]? = some v → (b = a ∧ v = x.best) ∨ (b ≠ a ∧ out[b]? = some v) := fun b v hv => by
          by_cases hba : b = a
          · subst hba
            rw [List.getElem?_set_self haO] at hv
            exact .inl ⟨rfl, (Option.some.inj hv).symm⟩
          · rw [List.getElem?_set_ne (Ne.symm hba)] at hv
            exact .inr ⟨hba, hv⟩
        have hdone : ∀ b : Nat, doneB (mset m (a : Int) true) (b : Int) = true ↔ b = a ∨ doneB m (b : Int) = true := fun b => by
          rw [done_set]
          split
          · rename_i h; exact ⟨fun _ => .inl (by omega), fun _ => rfl⟩
          · rename_i h; exact ⟨.inr, fun h' => h'.elim (fun e => absurd (by rw [e]) h) id⟩
        have hnot : ∀ b : Nat, doneB (mset m (a : Int) true) (b : Int) = false → b ≠ a ∧ doneB m (b : Int) = false := fun b h => by
          rw [done_set] at h
          split at h
          · cases h
          · rename_i h'; exact ⟨fun e => h' (by rw [e]), h⟩
        -- what is new
        have hnew : ∀ e, (∃ seg q, q ∈ onL l seg ∧ doneB (mset m (a : Int) true) q.x0 = false ∧ e = wayTo l x.best q) → ∃ (b j : Nat) (p : Plan) (y : Link), l.Plans[b]? = some p ∧ p.Ports[j]? = some y ∧ 1 ≤ y.Cost ∧ y.Cost ≤ 1000 ∧ e = ⟨⟨x.best.x0, x.best.x1 + y.Cost⟩, (b : Int)⟩ := by
          rintro e ⟨seg, q, hq, _, rfl⟩
          obtain ⟨b, p, j, y, h1, h2, h3, h4, rfl⟩ := (mem_onL l seg q).1 hq
          have hc : costOf l ⟨(b : Int), (j : Int)⟩ = y.Cost := by
            unfold costOf
            simp only [Int.toNat_natCast, h1, h2]
          have hy := hr.cost p (List.mem_of_getElem? h1) y (List.mem_of_getElem? h2)
          exact ⟨b, j, p, y, h1, h2, hy.1, hy.2, by unfold wayTo; rw [hc]⟩
        have hx0 := hmin
        refine ih Q2 (out.set a x.best) (mset m (a : Int) true) ⟨g.heap, by rw [List.length_set]; exact ti.len, fun e he => ?_, fun e he => ?_, fun e he hz => ?_, fun i p hp hdi => ?_, fun c b y w hdc hed hw => ?_, fun c w hdc hw e he => ?_, fun c w hdc hw => ?_⟩ (by have := g.len; omega) (by have := g.len; omega)
        · rcases g.only e he with h | h
          · exact ti.at_ e ((hQQ e).2 (.inr h))
          · obtain ⟨b, j, p, y, h1, _, _, _, rfl⟩ := hnew e h
            exact ⟨b, rfl, (List.getElem?_eq_some_iff.1 h1).1⟩
        · rcases g.only e he with h | h
          · have := ti.cost e ((hQQ e).2 (.inr h)); omega
          · obtain ⟨b, j, p, y, _, _, h1, h2, rfl⟩ := hnew e h
            simp only; omega
        · rcases g.only e he with h | h
          · exact ti.zero e ((hQQ e).2 (.inr h)) hz
          · obtain ⟨b, j, p, y, _, _, h1, h2, rfl⟩ := hnew e h
            simp only at hz; omega
        · obtain ⟨h1, h2⟩ := hnot i hdi
          obtain ⟨e, he, h3, h4⟩ := ti.init i p hp h2
          rcases (hQQ e).1 he with rfl | he
          · rw [hxa] at h3; omega
          · exact ⟨e, g.keep e he, h3, h4⟩
        · have hyc : 0 ≤ y.Cost := by
            obtain ⟨p, q, z, j, _, hq, _, _, hj, _⟩ := hed
            have := hr.cost q (List.mem_of_getElem? hq) y (List.mem_of_getElem? hj); omega
          rcases hset c w hw with ⟨rfl, rfl⟩ | ⟨hca, hw⟩
          · cases hdb : doneB (mset m (c : Int) true) (b : Int) with
            | true =>
              refine .inl ⟨rfl, fun v hv => ?_⟩
              rcases hset b v hv with ⟨_, rfl⟩ | ⟨hba, hv⟩
              · exact far_le hyc
              · rcases (hdone b).1 hdb with h | h
                · exact absurd h hba
                · exact leP_trans (ti.mono b v h hv x hxQ) (far_le hyc)
            | false =>
              obtain ⟨p, q, z, j, hp, hq, hz, hzu, hj, hyu, hys⟩ := hed
              rw [hpa] at hp; obtain rfl := Option.some.inj hp
              have hmem : (⟨(b : Int), (j : Int)⟩ : arr2_i64) ∈ onL l z.Seg := (mem_onL l z.Seg _).2 ⟨b, q, j, y, hq, hj, hyu, hys, rfl⟩
              refine .inr ⟨_, g.must _ ⟨z, hz, hzu, hmem⟩ hdb, rfl, ?_⟩
              have hc : costOf l ⟨(b : Int), (j : Int)⟩ = y.Cost := by
                unfold costOf
                simp only [Int.toNat_natCast, hq, hj]
              unfold wayTo far
              rw [hc]; exact leP_refl _
          · have hdc' : doneB m (c : Int) = true := ((hdone c).1 hdc).resolve_left hca
            rcases ti.edge c b y w hdc' hed hw with ⟨h1, h2⟩ | ⟨e, he, h1, h2⟩
            · refine .inl ⟨(hdone b).2 (.inr h1), fun v hv => ?_⟩
              rcases hset b v hv with ⟨rfl, _⟩ | ⟨_, hv⟩
              · rw [hd] at h1; cases h1
              · exact h2 v hv
            · rcases (hQQ e).1 he with rfl | he
              · rw [hxa] at h1
                have hab : b = a := by omega
                refine .inl ⟨(hdone b).2 (.inl hab), fun v hv => ?_⟩
                rcases hset b v hv with ⟨_, rfl⟩ | ⟨hba, _⟩
                · exact h2
                · exact absurd hab hba
              · exact .inr ⟨e, g.keep e he, h1, h2⟩
        · have hle : ∀ e ∈ Q2, leP x.best e.best := fun e he => by
            rcases g.only e he with h | h
            · exact hmin e ((hQQ e).2 (.inr h))
            · obtain ⟨b, j, p, y, _, _, h1, h2, rfl⟩ := hnew e h
              exact .inr ⟨rfl, by show x.best.x1 ≤ x.best.x1 + y.Cost; omega⟩
          rcases hset c w hw with ⟨_, rfl⟩ | ⟨hca, hw⟩
          · exact hle e he
          · exact leP_trans (ti.mono c w (((hdone c).1 hdc).resolve_left hca) hw x hxQ) (hle e he)
        · rcases hset c w hw with ⟨rfl, rfl⟩ | ⟨hca, hw⟩
          · refine ⟨by omega, fun p hp => ?_, fun hz p hp => ti.zero x hxQ hz c p hxa hp⟩
            obtain ⟨e, he, _, h2⟩ := ti.init c p hp hd
            exact leP_trans (hmin e he) h2
          · obtain ⟨h1, h2, h3⟩ := ti.outOk c w (((hdone c).1 hdc).resolve_left hca) hw
            exact ⟨by omega, h2, h3⟩
theorem bests_eq : ∃ out, Final l out ∧ tree_bests k l = some out := by
  have hr := rightL hrb
  have h8 := hl.plans
  have hN := hr.plans
  unfold tree_bests
  have key := loop_ind (z := (fun _ _ => none : Int → List tree_way → Option (List arr2_i64))) (s := tree_bests_s42 k l) (fun q f => ∀ (i : Nat) (Q : List tree_way), i ≤ l.Plans.length → l.Plans.length - i < q → Q.length = i → Heap Q Q.length →
      (∀ e ∈ Q, ∃ (j : Nat) (p : Plan), l.Plans[j]? = some p ∧ e = ⟨⟨p.ID, 0⟩, (j : Int)⟩) → (∀ (j : Nat) (p : Plan), j < i → l.Plans[j]? = some p → (⟨⟨p.ID, 0⟩, (j : Int)⟩ : tree_way) ∈ Q) → ∃ out, Final l out ∧ f i Q = some out)
    (fun _ _ _ h => by omega) (fun q f ih i Q hi hq hQ hh h1 h2 => by
      unfold tree_bests_s42
      by_cases hlt : i < l.Plans.length
      · rw [decide_eq_true (by omega), cond_true, idx_lt hlt, Option.bind_some, push_lt (by omega), Option.bind_some]
        unfold tree_bests_j41 tree_bests_j40
        rw [s39_eq, show wr ((i : Int) + 1) = ((i + 1 : Nat) : Int) by rw [wr_id (by omega) (by omega)]; omega]
        obtain ⟨Q', h3, h4, h5⟩ := push_up (fun l => f ((i + 1 : Nat) : Int) l) k Q ⟨⟨l.Plans[i].ID, 0⟩, (i : Int)⟩ (by omega) (by omega) hh
        rw [h5]
        refine ih (i + 1) Q' (by omega) (by omega) (by rw [h3.length_eq]; simp; omega) h4 (fun e he => ?_) (fun j p hj hp => ?_)
        · rcases List.mem_append.1 (h3.mem_iff.1 he) with he | he
          · exact h1 e he
          · exact ⟨i, l.Plans[i], List.getElem?_eq_getElem hlt, List.mem_singleton.1 he⟩
        · rcases Nat.lt_or_ge j i with hji | hji
          · exact h3.mem_iff.2 (List.mem_append_left _ (h2 j p hji hp))
          · obtain rfl : j = i := by omega
            rw [List.getElem?_eq_getElem hlt] at hp
            obtain rfl := Option.some.inj hp
            exact h3.mem_iff.2 (by simp)
      · rw [decide_eq_false (by omega), cond_false]
        unfold tree_bests_j32
        rw [mk_nat (by omega), Option.bind_some]
        have hd0 : ∀ i : Int, doneB [] i = false := fun i => rfl
        have hu := undone_le l []
        have hu2 : undone l [] = l.Plans.length := by
          unfold undone
          rw [show (fun i : Nat => !(doneB [] (i : Int))) = fun _ => true from rfl]
          simp
        refine bests_run hl hrb hk k Q (List.replicate l.Plans.length ⟨0, 0⟩) [] ⟨hh, by simp, fun e he => ?_, fun e he => ?_, fun e he hz j p hj hp => ?_, fun j p hp _ => ?_, fun a b y w hd => ?_, fun a w hd => ?_, fun a w hd => ?_⟩ (by omega) (by omega)
        · obtain ⟨j, p, hp, rfl⟩ := h1 e he
          exact ⟨j, rfl, (List.getElem?_eq_some_iff.1 hp).1⟩
        · obtain ⟨j, p, hp, rfl⟩ := h1 e he
          simp only; omega
        · obtain ⟨j', p', hp', rfl⟩ := h1 e he
          have : j' = j := by simp only at hj; omega
          subst this
          rw [hp] at hp'; obtain rfl := Option.some.inj hp'; rfl
        · exact ⟨_, h2 j p (by have := (List.getElem?_eq_some_iff.1 hp).1; omega) hp, rfl, leP_refl _⟩
        · rw [hd0] at hd; cases hd
        · rw [hd0] at hd; cases hd
        · rw [hd0] at hd; cases hd) k
  exact key 0 [] (Nat.zero_le _) (by omega) rfl (fun i y p h0 h => by simp at h) (fun e he => by simp at he) (fun j p hj => by omega)
end
end Go.Proofs.Ytdiclbejalelfaa
