/- What is on a segment, in plain terms. No condition. -/
import Derived.Test.YtdiclbejalelfaaPLan
set_option linter.unusedVariables false
set_option linter.unusedSimpArgs false
namespace Go.Proofs.Ytdiclbejalelfaa

/-- A plan's ports on a segment, from the j-th on. -/
def portsOf (seg : Int) (b : Nat) : Nat → List Link → List arr2_i64
  | _, [] => []
  | j, x :: xs => (bif x.Up && (x.Seg == seg) then [⟨(b : Int), (j : Int)⟩] else []) ++ portsOf seg b (j + 1) xs
def portsFrom (seg : Int) : Nat → List Plan → List arr2_i64
  | _, [] => []
  | b, p :: ps => portsOf seg b 0 p.Ports ++ portsFrom seg (b + 1) ps
def onL (l : Lan) (seg : Int) : List arr2_i64 := portsFrom seg 0 l.Plans
theorem mem_portsOf (seg : Int) (b : Nat) (q : arr2_i64) : ∀ (xs : List Link) (j : Nat), q ∈ portsOf seg b j xs ↔ ∃ (i : Nat) (x : Link), xs[i]? = some x ∧ x.Up = true ∧ x.Seg = seg ∧ q = ⟨(b : Int), ((j + i : Nat) : Int)⟩ := by
  intro xs
  induction xs with
  | nil => intro j; simp [portsOf]
  | cons x xs ih =>
    intro j
    rw [portsOf, List.mem_append, ih]
    constructor
    · rintro (h | ⟨i, y, h1, h2, h3, h4⟩)
      · cases hc : x.Up && (x.Seg == seg) with
        | false => rw [hc] at h; simp at h
        | true =>
          rw [hc] at h
          simp only [Bool.and_eq_true, beq_iff_eq] at hc
          simp only [cond_true, List.mem_singleton] at h
          exact ⟨0, x, rfl, hc.1, hc.2, h⟩
      · exact ⟨i + 1, y, h1, h2, h3, by rw [h4]; congr 2; omega⟩
    · rintro ⟨i, y, h1, h2, h3, h4⟩
      cases i with
      | zero =>
        simp at h1; subst h1
        refine .inl ?_
        rw [h2, h3, h4]; simp
      | succ i => exact .inr ⟨i, y, by simpa using h1, h2, h3, by rw [h4]; congr 2; omega⟩
theorem mem_portsFrom (seg : Int) (q : arr2_i64) : ∀ (ps : List Plan) (b : Nat), q ∈ portsFrom seg b ps ↔ ∃ (i : Nat) (p : Plan) (j : Nat) (x : Link), ps[i]? = some p ∧ p.Ports[j]? = some x ∧ x.Up = true ∧ x.Seg = seg ∧ q = ⟨((b + i : Nat) : Int), (j : Int)⟩ := by
  intro ps
  induction ps with
  | nil => intro b; simp [portsFrom]
  | cons p ps ih =>
    intro b
    rw [portsFrom, List.mem_append, ih, mem_portsOf]
    constructor
    · rintro (⟨j, x, h1, h2, h3, h4⟩ | ⟨i, p', j, x, h0, h1, h2, h3, h4⟩)
      · exact ⟨0, p, j, x, rfl, h1, h2, h3, by rw [h4]; simp⟩
      · exact ⟨i + 1, p', j, x, by simpa using h0, h1, h2, h3, by rw [h4]; congr 2; omega⟩
    · rintro ⟨i, p', j, x, h0, h1, h2, h3, h4⟩
      cases i with
      | zero => simp at h0; subst h0; exact .inl ⟨j, x, h1, h2, h3, by rw [h4]; simp⟩
      | succ i => exact .inr ⟨i, p', j, x, by simpa using h0, h1, h2, h3, by rw [h4]; congr 2; omega⟩
theorem mem_onL (l : Lan) (seg : Int) (q : arr2_i64) : q ∈ onL l seg ↔ ∃ (i : Nat) (p : Plan) (j : Nat) (x : Link), l.Plans[i]? = some p ∧ p.Ports[j]? = some x ∧ x.Up = true ∧ x.Seg = seg ∧ q = ⟨(i : Int), (j : Int)⟩ := by
  unfold onL
  rw [mem_portsFrom]
  simp
theorem portsOf_len (seg : Int) (b : Nat) : ∀ (xs : List Link) (j : Nat), (portsOf seg b j xs).length ≤ xs.length := by
  intro xs
  induction xs with
  | nil => intro j; simp [portsOf]
  | cons x xs ih =>
    intro j
    rw [portsOf, List.length_append, List.length_cons]
    have := ih (j + 1)
    cases x.Up && (x.Seg == seg) <;> simp <;> omega
theorem portsFrom_len (seg : Int) (n : Nat) : ∀ (ps : List Plan) (b : Nat), (∀ p ∈ ps, p.Ports.length ≤ n) → (portsFrom seg b ps).length ≤ ps.length * n := by
  intro ps
  induction ps with
  | nil => intro b _; simp [portsFrom]
  | cons p ps ih =>
    intro b h
    rw [portsFrom, List.length_append, List.length_cons, Nat.succ_mul]
    have h1 := ih (b + 1) (fun q hq => h q (List.mem_cons_of_mem _ hq))
    have h2 := portsOf_len seg b p.Ports 0
    have h3 := h p List.mem_cons_self
    omega
theorem onL_len {l : Lan} (hl : Small l) (seg : Int) : (onL l seg).length ≤ 80 := by
  have h1 := portsFrom_len seg 10 l.Plans 0 hl.ports
  have h2 := hl.plans
  unfold onL
  omega

theorem hostsOn_eq (k : Nat) (hk : 100 ≤ k) (l : Lan) (hl : Small l) (seg : Int) (acc : List arr2_i64) : lan_On_j5 k l seg acc = some (l.Hosts.filter (fun h => !(h.Seg != seg)), acc, 0) := by
  have h12 := hl.hosts
  unfold lan_On_j5 slices_Clone
  rw [cat_le (by simp; omega), Option.bind_some, List.nil_append]
  generalize l.Hosts = H at h12
  have hi : slices_IndexFunc_41 k H (fun x => lan_On_1 k x seg) = some (findI (fun h => h.Seg != seg) H) :=
    indexLoop H (fun x => lan_On_1 k x seg) (fun h => h.Seg != seg) (fun _ _ => rfl) (by omega) _ rfl k (by omega)
  rw [hi, Option.bind_some]
  rcases findI_spec (p := fun h : Host => h.Seg != seg) (xs := H) with ⟨h1, h2⟩ | ⟨i, h, h1, h2, h3⟩
  · rw [h1]
    have : H.filter (fun h => !(h.Seg != seg)) = H := by
      rw [List.filter_eq_self]; intro x hx; rw [h2 x hx]; rfl
    rw [this]; rfl
  · rw [h1, show ((i : Int) == -1) = false by cases i <;> rfl, cond_false, show wr ((i : Int) + 1) = ((i + 1 : Nat) : Int) by rw [wr_id (by omega) (by omega)]; omega]
    have hpre : (H.take i).filter (fun h => !(h.Seg != seg)) = H.take i := by
      rw [List.filter_eq_self]
      intro x hx
      obtain ⟨j, hj, rfl⟩ := List.getElem_of_mem hx
      have hj' : j < i := by simp at hj; omega
      rw [List.getElem_take, h3 j hj']; rfl
    obtain ⟨l', h4, h5, h6⟩ := deleteLoop (fun x => lan_On_1 k x seg) (fun h => h.Seg != seg) (fun i l => lan_On_j2 k acc i l) (lan_On_s4 k seg acc) rfl H (fun _ _ => rfl) (by omega) k i (i + 1) H (by omega) (by omega) rfl (by
      rw [List.take_succ_eq_append_getElem h, List.filter_append, hpre, List.filter_cons, h2]; simp) rfl (by omega)
    rw [h6]
    unfold lan_On_j2 lan_On_j1
    have hle : (H.filter fun h => !(h.Seg != seg)).length ≤ H.length := List.length_filter_le _ _
    rw [show clr l' (((H.filter fun h => !(h.Seg != seg)).length : Nat) : Int) (⟨0, 0⟩ : Host) = some (l'.take (H.filter fun h => !(h.Seg != seg)).length ++ List.replicate (l'.length - (H.filter fun h => !(h.Seg != seg)).length) ⟨0, 0⟩) from by
      unfold clr
      rw [if_pos ⟨by omega, by omega⟩, Int.toNat_natCast], Option.bind_some, h5, slc_to (by simp), Option.bind_some, List.take_left]
theorem onIn_eq (k : Nat) (hk : 100 ≤ k) (l : Lan) (hl : Small l) (seg : Int) (b : Nat) (rec : Int → List arr2_i64 → Option (List Host × List arr2_i64 × Int)) (p : Plan) (hp : p.Ports.length ≤ 10) (acc : List arr2_i64) (hb : b < 100) (ha : acc.length ≤ 1000) :
    loopN (fun _ _ => none) (lan_On_s9 k seg (b : Int) rec p) k 0 acc = rec ((b + 1 : Nat) : Int) (acc ++ portsOf seg b 0 p.Ports) := by
  have key := loop_ind (z := (fun _ _ => none : Int → List arr2_i64 → Option (List Host × List arr2_i64 × Int))) (s := lan_On_s9 k seg (b : Int) rec p) (fun q f => ∀ (i : Nat) (acc : List arr2_i64), i ≤ p.Ports.length → p.Ports.length - i < q → acc.length ≤ 1000 + i → f i acc = rec ((b + 1 : Nat) : Int) (acc ++ portsOf seg b i (p.Ports.drop i)))
    (fun _ _ _ h => by omega) (fun q f ih i acc hi hq ha => by
      unfold lan_On_s9
      by_cases hlt : i < p.Ports.length
      · rw [decide_eq_true (by omega), cond_true, idx_lt hlt, Option.bind_some]
        have hdrop : p.Ports.drop i = p.Ports[i] :: p.Ports.drop (i + 1) := (List.getElem_cons_drop hlt).symm
        rw [hdrop, portsOf]
        unfold lan_On_j8 lan_On_j7
        have e : wr ((i : Int) + 1) = ((i + 1 : Nat) : Int) := by rw [wr_id (by omega) (by omega)]; omega
        rw [push_lt (by omega), Option.bind_some, e]
        cases p.Ports[i].Up with
        | false =>
          rw [cond_false, cond_false, Bool.false_and, cond_false, List.nil_append]
          exact ih (i + 1) acc (by omega) (by omega) (by omega)
        | true =>
          rw [cond_true, Bool.true_and]
          cases p.Ports[i].Seg == seg with
          | false =>
            rw [cond_false, cond_false, List.nil_append]
            exact ih (i + 1) acc (by omega) (by omega) (by omega)
          | true =>
            rw [cond_true, cond_true, ih (i + 1) _ (by omega) (by omega) (by simp; omega), List.append_assoc]
      · rw [decide_eq_false (by omega), cond_false, List.drop_eq_nil_of_le (by omega), portsOf, List.append_nil]
        unfold lan_On_j6
        rw [show wr ((b : Int) + 1) = ((b + 1 : Nat) : Int) by rw [wr_id (by omega) (by omega)]; omega]) k
  have := key 0 acc (Nat.zero_le _) (by omega) (by omega)
  rw [List.drop_zero] at this
  exact this
theorem on_eq (k : Nat) (hk : 100 ≤ k) (l : Lan) (hl : Small l) (hr : rightB l = true) (seg : Int) (hs : inB seg 0 (wr (l.Segs - 1)) = true) : ∃ hs, lan_On k l seg = some (hs, onL l seg, 0) := by
  refine ⟨l.Hosts.filter (fun h => !(h.Seg != seg)), ?_⟩
  unfold lan_On
  rw [show lan_may k l seg = some 0 by
    unfold lan_may
    rw [right_eq k (by omega) l hl, hr, Option.bind_some, in_eq, hs]; rfl, Option.bind_some]
  show loopN (fun _ _ => none) (lan_On_s10 k l seg) k 0 [] = _
  have h8 := hl.plans
  have key := loop_ind (z := (fun _ _ => none : Int → List arr2_i64 → Option (List Host × List arr2_i64 × Int))) (s := lan_On_s10 k l seg) (fun q f => ∀ (i : Nat) (acc : List arr2_i64), i ≤ l.Plans.length → l.Plans.length - i < q → acc.length ≤ 10 * i → f i acc = some (l.Hosts.filter (fun h => !(h.Seg != seg)), acc ++ portsFrom seg i (l.Plans.drop i), 0))
    (fun _ _ _ h => by omega) (fun q f ih i acc hi hq ha => by
      unfold lan_On_s10
      by_cases hlt : i < l.Plans.length
      · rw [decide_eq_true (by omega), cond_true, idx_lt hlt, Option.bind_some]
        have hdrop : l.Plans.drop i = l.Plans[i] :: l.Plans.drop (i + 1) := (List.getElem_cons_drop hlt).symm
        have hp := hl.ports _ (List.getElem_mem hlt)
        rw [hdrop, portsFrom, onIn_eq k hk l hl seg i f _ hp acc (by omega) (by omega), ← List.append_assoc]
        have h3 := portsOf_len seg i l.Plans[i].Ports 0
        exact ih (i + 1) _ (by omega) (by omega) (by rw [List.length_append]; omega)
      · rw [decide_eq_false (by omega), cond_false, List.drop_eq_nil_of_le (by omega), portsFrom, List.append_nil]
        exact hostsOn_eq k hk l hl seg acc) k
  have := key 0 [] (Nat.zero_le _) (by omega) (by simp)
  rw [List.drop_zero, List.nil_append] at this
  exact this
end Go.Proofs.Ytdiclbejalelfaa
