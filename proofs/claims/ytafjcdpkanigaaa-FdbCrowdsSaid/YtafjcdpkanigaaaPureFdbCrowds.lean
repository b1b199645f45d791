/- The law FdbCrowds in plain terms: it comes to true, whatever its arguments. No condition but that whole numbers are Go's. -/
import Derived.Test.YtafjcdpkanigaaaPureFdbLearns
set_option linter.unusedVariables false
set_option linter.unusedSimpArgs false
namespace Go.Proofs.Ytafjcdpkanigaaa

theorem rem_twice (x : Int) (n : Nat) (h0 : 0 < n) (h1 : n < 1000) : ∃ r q : Int, irem x n = some r ∧ irem (wr (r + n)) n = some q ∧ 0 ≤ q ∧ q < n := by
  have hr : irem x n = some (x.tmod n) := by unfold irem; rw [if_neg (by omega)]
  have h3 : (x.tmod n).natAbs < n := by rw [Int.natAbs_tmod, Int.natAbs_natCast]; exact Nat.mod_lt _ h0
  have h4 : x.tmod n < (n : Int) := Int.tmod_lt_of_pos x (by omega)
  refine ⟨x.tmod n, (x.tmod n + n).tmod n, hr, ?_, ?_, ?_⟩
  · unfold irem
    rw [if_neg (by omega), wr_id (by omega) (by omega)]
  · exact Int.tmod_nonneg _ (by omega)
  · exact Int.tmod_lt_of_pos _ (by omega)
/-- An entry of the law's. -/
def ent_ (a p x : Int) : Entry := ⟨x, if x = a then p else 7 - p, 0, false⟩
def okMac (x : Int) : Prop := ∃ i : Int, 0 ≤ i ∧ i < 12 ∧ x = 2 * i
theorem okMac_macB {x : Int} (h : okMac x) : macB x = true := by
  obtain ⟨i, h0, h1, rfl⟩ := h
  unfold macB
  rw [decide_eq_true]; omega
theorem others_map (a p x : Int) (ms : List Int) : othersL (ms.map (ent_ a p)) x = (ms.filter fun y => !(y == x)).map (ent_ a p) := by
  unfold othersL
  rw [List.filter_map]; rfl
theorem dropNS_map (a p : Int) (ms : List Int) (h : ms ≠ []) : dropNS (ms.map (ent_ a p)) = some (ms.dropLast.map (ent_ a p)) := by
  obtain ⟨m0, x, rfl⟩ : ∃ r0 e, ms = r0 ++ [e] := ⟨ms.dropLast, ms.getLast h, (List.dropLast_concat_getLast _).symm⟩
  rw [List.map_append, List.map_cons, List.map_nil, dropNS_snoc]
  show some _ = _
  rw [List.dropLast_concat]
theorem bkt_one (x : Int) : bkt x 1 = 0 := by unfold bkt; exact Nat.mod_one _
theorem goodL_map (a p : Int) (hp : 0 ≤ p ∧ p ≤ 7) : ∀ (ms : List Int) (prev : List Int), (∀ x ∈ ms, okMac x ∧ x ∉ prev) → ms.Nodup → goodL 0 1 prev (ms.map (ent_ a p)) = true := by
  intro ms
  induction ms with
  | nil => intro prev _ _; rfl
  | cons x ms ih =>
    intro prev h hd
    rw [List.nodup_cons] at hd
    rw [List.map_cons, goodL, Bool.and_eq_true, Bool.and_eq_true]
    obtain ⟨h1, h2⟩ := h x (by simp)
    refine ⟨?_, ?_, ih _ (fun y hy => ⟨(h y (List.mem_cons_of_mem _ hy)).1, fun hm => ?_⟩) hd.2⟩
    · unfold entryB
      show (macB x && (inB (if x = a then p else 7 - p) 0 7 && (inB 0 0 1099511627776 && ((!false || (0 : Int) == 0) && bkt x 1 == 0)))) = true
      rw [okMac_macB h1, bkt_one]
      unfold inB
      rw [decide_eq_true (by split <;> omega)]; rfl
    · show (!(prev.contains x)) = true
      simpa using h2
    · rcases List.mem_append.1 hm with hm | hm
      · exact (h y (List.mem_cons_of_mem _ hy)).2 hm
      · have : y = x := List.mem_singleton.1 hm
        exact hd.1 (this ▸ hy)
/-- The table of the law's. -/
def tab_ (a p : Int) (s : Nat) (age : Int) (ms : List Int) : Table := ⟨[ms.map (ent_ a p)], s, age⟩
theorem tab_good {a p : Int} {s : Nat} {age : Int} {ms : List Int} (hp : 0 ≤ p ∧ p ≤ 7) (hs : 1 ≤ s ∧ s ≤ 4) (ha : 1 ≤ age ∧ age ≤ 1048576) (hm : ∀ x ∈ ms, okMac x) (hd : ms.Nodup) (hl : ms.length ≤ s) : Good (tab_ a p s age ms) := by
  refine ⟨by show sizeB 1 = true; decide, by show 0 < 1; omega, by show 1 ≤ 16; omega, ?_, ha, fun i hi => ?_⟩
  · show 1 ≤ (s : Int) ∧ (s : Int) ≤ 4
    omega
  · have hi' : i < 1 := hi
    obtain rfl : i = 0 := by omega
    refine ⟨goodL_map a p hp ms [] (fun x hx => ⟨hm x hx, by simp⟩) hd, ?_⟩
    show ((List.length (ms.map (ent_ a p)) : Nat) : Int) ≤ (s : Int)
    rw [List.length_map]; omega
theorem tab_small {a p : Int} {s : Nat} {age : Int} {ms : List Int} (hl : ms.length ≤ 8) : Small (tab_ a p s age ms) := by
  refine ⟨by show 1 ≤ 20; omega, fun l h => ?_⟩
  have : l = ms.map (ent_ a p) := List.mem_singleton.1 h
  rw [this, List.length_map]; exact hl
theorem tab_bk {a p : Int} {s : Nat} {age : Int} {ms : List Int} (x : Int) : bk (tab_ a p s age ms) x = ms.map (ent_ a p) := by
  unfold bk
  show (([ms.map (ent_ a p)] : List (List Entry))[bkt x 1]?).getD [] = _
  rw [bkt_one]; rfl
/-- What is behind a learning. -/
def next_ (s : Nat) (ms : List Int) (x : Int) : List Int := if (ms.filter fun y => !(y == x)).length < s then x :: ms.filter (fun y => !(y == x)) else x :: (ms.filter fun y => !(y == x)).dropLast
theorem findE_map (a p x : Int) (ms : List Int) : findE (ms.map (ent_ a p)) x = if x ∈ ms then some (ent_ a p x) else none := by
  unfold findE
  induction ms with
  | nil => rfl
  | cons y ms ih =>
    rw [List.map_cons, List.find?_cons]
    by_cases h : y = x
    · subst h
      rw [show macIs y (ent_ a p y) = true by unfold macIs ent_; simp, if_pos (by simp)]
    · rw [show macIs x (ent_ a p y) = false by unfold macIs ent_; exact beq_eq_false_iff_ne.2 h, ih]
      by_cases h2 : x ∈ ms
      · rw [if_pos h2, if_pos (List.mem_cons_of_mem _ h2)]
      · rw [if_neg h2, if_neg (fun h3 => by
          rcases List.mem_cons.1 h3 with h3 | h3
          · exact h h3.symm
          · exact h2 h3)]
theorem tab_learn {a p : Int} {s : Nat} {age : Int} {ms : List Int} (hp : 0 ≤ p ∧ p ≤ 7) (hs : 1 ≤ s ∧ s ≤ 4) (ha : 1 ≤ age ∧ age ≤ 1048576) (hm : ∀ x ∈ ms, okMac x) (hd : ms.Nodup) (hl : ms.length ≤ s) {x q : Int} (hx : okMac x) (hq : q = if x = a then p else 7 - p) :
    fdb_Learn 100 (tab_ a p s age ms) x q 0 = some (tab_ a p s age (next_ s ms x), 0) := by
  have g := tab_good (a := a) hp hs ha hm hd hl
  have hport : portB q = true := by unfold portB inB; rw [decide_eq_true]; rw [hq]; split <;> omega
  rw [learn_eq (tab_small (by omega)), good_rightB g, okMac_macB hx, hport, show timeB 0 = true by decide]
  show some (learnT (tab_ a p s age ms) x q 0, (0 : Int)) = _
  unfold learnT
  rw [tab_bk]
  have hpin : pinB (ms.map (ent_ a p)) x = false := by
    unfold pinB
    rw [findE_map]
    by_cases h : x ∈ ms
    · rw [if_pos h]; rfl
    · rw [if_neg h]
  rw [hpin, cond_false]
  have he : (⟨x, q, 0, false⟩ : Entry) = ent_ a p x := by unfold ent_; rw [hq]
  rw [he]
  unfold putT
  have hmac : (ent_ a p x).Mac = x := rfl
  rw [hmac, tab_bk]
  unfold putL
  rw [hmac, others_map, List.length_map]
  unfold next_
  generalize hF : (ms.filter fun y => !(y == x)) = F
  show some ((match (bif decide (((F.length : Nat) : Int) < (s : Int)) then some (ent_ a p x :: F.map (ent_ a p)) else (dropNS (F.map (ent_ a p))).map (ent_ a p x :: ·)) with | some l => _ | none => _), (0 : Int)) = _
  by_cases hc : F.length < s
  · rw [decide_eq_true (by omega), if_pos hc]
    show some ((⟨([ms.map (ent_ a p)] : List (List Entry)).set (bkt x 1) (ent_ a p x :: F.map (ent_ a p)), (s : Int), age⟩ : Table), (0 : Int)) = _
    rw [bkt_one]; rfl
  · have hne : F ≠ [] := fun h => by rw [h] at hc; simp at hc; omega
    rw [decide_eq_false (by omega), if_neg hc, cond_false, dropNS_map a p F hne]
    show some ((⟨([ms.map (ent_ a p)] : List (List Entry)).set (bkt x 1) (ent_ a p x :: F.dropLast.map (ent_ a p)), (s : Int), age⟩ : Table), (0 : Int)) = _
    rw [bkt_one]; rfl
theorem filter_len {l : List Int} (h : l.Nodup) (x : Int) : l.length ≤ (l.filter fun y => !(y == x)).length + 1 ∧ (x ∈ l → l.length = (l.filter fun y => !(y == x)).length + 1) ∧ (x ∉ l → l.filter (fun y => !(y == x)) = l) := by
  have hno : ∀ m : List Int, x ∉ m → m.filter (fun y => !(y == x)) = m := fun m hm => by
    rw [List.filter_eq_self]
    intro y hy
    have : y ≠ x := fun e => hm (e ▸ hy)
    simpa using this
  have hin : x ∈ l → l.length = (l.filter fun y => !(y == x)).length + 1 := by
    intro hx
    induction l with
    | nil => simp at hx
    | cons y l ih =>
      rw [List.nodup_cons] at h
      by_cases hy : y = x
      · subst hy
        rw [List.filter_cons, if_neg (by simp), hno l h.1]; rfl
      · have hx' : x ∈ l := by
          rcases List.mem_cons.1 hx with hx | hx
          · exact absurd hx.symm hy
          · exact hx
        rw [List.filter_cons, if_pos (by simpa using hy), List.length_cons, List.length_cons, ih h.2 hx']
  refine ⟨?_, hin, hno l⟩
  by_cases hx : x ∈ l
  · exact Nat.le_of_eq (hin hx)
  · rw [hno l hx]; omega
/-- A row of the last ones goes on as the row of all does. -/
theorem next_take {s : Nat} (hs : 1 ≤ s) {L : List Int} (hL : L.Nodup) (x : Int) : next_ s (L.take s) x = (x :: L.filter fun y => !(y == x)).take s := by
  have hG : L.filter (fun y => !(y == x)) = (L.take s).filter (fun y => !(y == x)) ++ (L.drop s).filter (fun y => !(y == x)) := by
    rw [← List.filter_append, List.take_append_drop]
  have hF := (filter_len (List.Nodup.sublist (List.take_sublist s L) hL) x).1
  have hle : ((L.take s).filter fun y => !(y == x)).length ≤ s := Nat.le_trans (List.length_filter_le _ _) (by rw [List.length_take]; omega)
  unfold next_
  rw [hG]
  generalize (L.take s).filter (fun y => !(y == x)) = F at *
  obtain ⟨s', rfl⟩ : ∃ s', s = s' + 1 := ⟨s - 1, by omega⟩
  rw [List.take_succ_cons]
  by_cases hc : F.length < s' + 1
  · rw [if_pos hc]
    congr 1
    rcases Nat.eq_or_lt_of_le (show F.length ≤ s' by omega) with he | hlt
    · rw [← he, List.take_left]
    · have hd : L.drop (s' + 1) = [] := by
        apply List.drop_eq_nil_of_le
        rw [List.length_take] at hF; omega
      rw [hd, List.filter_nil, List.append_nil, List.take_of_length_le (by omega)]
  · rw [if_neg hc]
    congr 1
    rw [List.dropLast_eq_take, List.take_append_of_le_length (by omega)]
    congr 1; omega
theorem mset_len (m : List (Int × Int)) (x v : Int) : (mset m x v).length = if x ∈ m.map (·.1) then m.length else m.length + 1 := by
  induction m with
  | nil => rfl
  | cons q m ih =>
    unfold mset
    by_cases h : q.1 = x
    · rw [show (q.1 == x) = true by simpa using h, cond_true, if_pos (by simp [h])]; rfl
    · rw [show (q.1 == x) = false by simpa using h, cond_false, List.length_cons, ih, List.map_cons]
      by_cases h2 : x ∈ m.map (·.1)
      · rw [if_pos h2, if_pos (List.mem_cons_of_mem _ h2)]; rfl
      · rw [if_neg h2, if_neg (fun h3 => by
          rcases List.mem_cons.1 h3 with h3 | h3
          · exact h h3.symm
          · exact h2 h3)]; rfl
theorem mset_keys (m : List (Int × Int)) (x v y : Int) : y ∈ (mset m x v).map (·.1) ↔ y = x ∨ y ∈ m.map (·.1) := by
  induction m with
  | nil => simp [mset]
  | cons q m ih =>
    unfold mset
    by_cases h : q.1 = x
    · rw [show (q.1 == x) = true by simpa using h, cond_true]; simp [h]
    · rw [show (q.1 == x) = false by simpa using h, cond_false, List.map_cons, List.mem_cons, ih, List.map_cons, List.mem_cons]
      constructor
      · rintro (h1 | h1 | h1)
        · exact .inr (.inl h1)
        · exact .inl h1
        · exact .inr (.inr h1)
      · rintro (h1 | h1 | h1)
        · exact .inr (.inl h1)
        · exact .inl h1
        · exact .inr (.inr h1)
/-- Who was met since. -/
structure Met (a : Int) (D : List Int) (m : List (Int × Int)) : Prop where
  nd : D.Nodup
  na : a ∉ D
  ok : ∀ x ∈ D, okMac x
  len : m.length = D.length
  keys : ∀ x, x ∈ m.map (·.1) ↔ x ∈ D
theorem Met.next {a : Int} {D : List Int} {m : List (Int × Int)} (h : Met a D m) {x : Int} (hx : okMac x) (hne : x ≠ a) (v : Int) : Met a (x :: D.filter fun y => !(y == x)) (mset m x v) := by
  obtain ⟨f1, f2, f3⟩ := filter_len h.nd x
  refine ⟨?_, ?_, ?_, ?_, ?_⟩
  · rw [List.nodup_cons]
    exact ⟨fun hm => by simpa using (List.mem_filter.1 hm).2, List.Nodup.sublist List.filter_sublist h.nd⟩
  · intro hm
    rcases List.mem_cons.1 hm with hm | hm
    · exact hne hm.symm
    · exact h.na (List.mem_filter.1 hm).1
  · intro y hy
    rcases List.mem_cons.1 hy with rfl | hy
    · exact hx
    · exact h.ok y (List.mem_filter.1 hy).1
  · rw [mset_len, List.length_cons]
    by_cases hm : x ∈ D
    · rw [if_pos ((h.keys x).2 hm), h.len, f2 hm]
    · rw [if_neg (fun e => hm ((h.keys x).1 e)), h.len, f3 hm]
  · intro y
    rw [mset_keys, h.keys, List.mem_cons, List.mem_filter]
    by_cases hy : y = x
    · simp [hy]
    · simp [hy]
namespace Pure
theorem fdbCrowds (slots age port : Int) (others : List Int) (a wait : Int) (_ : wfI slots) (_ : wfI age) (_ : wfI port) (_ : wfL wfI others) (_ : wfI a) (_ : wfI wait) : ∃ k, law08_FdbCrowds k slots age port others a wait = some true := by
  refine ⟨100, ?_⟩
  unfold law08_FdbCrowds
  obtain ⟨r0, s0, h1, h2, h3, h4⟩ := rem_twice slots 4 (by omega) (by omega)
  obtain ⟨r1, g0, h5, h6, h7, h8⟩ := rem_twice age 50 (by omega) (by omega)
  obtain ⟨r2, p, h9, h10, h11, h12⟩ := rem_twice port 8 (by omega) (by omega)
  obtain ⟨r3, a0, h13, h14, h15, h16⟩ := rem_twice a 12 (by omega) (by omega)
  obtain ⟨r4, w, h17, h18, h19, h20⟩ := rem_twice wait 60 (by omega) (by omega)
  have e4 : ((4 : Nat) : Int) = 4 := rfl
  have e50 : ((50 : Nat) : Int) = 50 := rfl
  have e8 : ((8 : Nat) : Int) = 8 := rfl
  have e12 : ((12 : Nat) : Int) = 12 := rfl
  have e60 : ((60 : Nat) : Int) = 60 := rfl
  rw [e4] at h1 h2 h4
  rw [e50] at h5 h6 h8
  rw [e8] at h9 h10 h12
  rw [e12] at h13 h14 h16
  rw [e60] at h17 h18 h20
  rw [h1, Option.bind_some, h2, Option.bind_some, h5, Option.bind_some, h6, Option.bind_some, h9, Option.bind_some, h10, Option.bind_some, h13, Option.bind_some, h14, Option.bind_some, h17, Option.bind_some, h18, Option.bind_some]
  obtain ⟨s, hs⟩ : ∃ s : Nat, wr (1 + s0) = s := ⟨(1 + s0).toNat, by rw [wr_id (by omega) (by omega)]; omega⟩
  have hs1 : 1 ≤ s ∧ s ≤ 4 := by rw [wr_id (by omega) (by omega)] at hs; omega
  obtain ⟨ag, hag⟩ : ∃ ag, wr (1 + g0) = ag := ⟨_, rfl⟩
  have hag1 : 1 ≤ ag ∧ ag ≤ 1048576 := by rw [wr_id (by omega) (by omega)] at hag; omega
  obtain ⟨A, hA⟩ : ∃ A, wr (2 * a0) = A := ⟨_, rfl⟩
  have hA0 : A = 2 * a0 := by rw [wr_id (by omega) (by omega)] at hA; exact hA.symm
  have hAok : okMac A := ⟨a0, h15, h16, hA0⟩
  have h7p : wr (7 - p) = 7 - p := wr_id (by omega) (by omega)
  have hp : 0 ≤ p ∧ p ≤ 7 := by omega
  have hnew : fdb_New 100 1 s ag = some (tab_ A p s ag [], 0) := by
    rw [new_eq]
    have : sizesB 1 s ag = true := by
      unfold sizesB inB
      rw [decide_eq_true (show 1 ≤ (s : Int) ∧ (s : Int) ≤ 4 by omega), decide_eq_true hag1]; decide
    rw [this]; rfl
  have hl0 := tab_learn (a := A) (ms := []) hp hs1 hag1 (by simp) (by simp) (by simp) hAok (q := p) (by rw [if_pos rfl])
  rw [hs, hag, hA, hnew, Option.bind_some]
  show ((fdb_Learn 100 (tab_ A p s ag []) A p 0).bind fun x38 => _) = _
  rw [hl0, Option.bind_some]
  show (bif ((0 : Int) != 0) || ((0 : Int) != 0) then _ else _) = _
  rw [show (((0 : Int) != 0) || ((0 : Int) != 0)) = false from rfl, cond_false, show (20 : Int) = ((20 : Nat) : Int) from rfl, slc_min, Option.bind_some]
  generalize hO : others.take 20 = O
  have hOl : O.length ≤ 20 := by rw [← hO, List.length_take]; omega
  have key := loop_ind (z := (fun _ _ _ _ _ => none : Int → List (List Entry) → Int → Int → List (Int × Int) → Option Bool)) (s := law08_FdbCrowds_s4 100 s0 g0 p a0 w O) (fun q f => ∀ (i : Nat) (ii : Int) (D : List Int) (m : List (Int × Int)), ii = i → i ≤ O.length → O.length - i < q → Met A D m → f ii [((D ++ [A]).take s).map (ent_ A p)] s ag m = some true)
    (fun _ _ _ _ _ _ h => by omega) (fun q f ih i ii D m hii hi hq hm => by
      subst hii
      have hnd : (D ++ [A]).Nodup := by
        rw [List.nodup_append]
        refine ⟨hm.nd, by simp, fun x hx y hy => ?_⟩
        rw [List.mem_singleton.1 hy]
        exact fun e => hm.na (e ▸ hx)
      have hok : ∀ x ∈ D ++ [A], okMac x := by
        intro x hx
        rcases List.mem_append.1 hx with hx | hx
        · exact hm.ok x hx
        · rw [List.mem_singleton.1 hx]; exact hAok
      have htk : ((D ++ [A]).take s).length ≤ s := by rw [List.length_take]; omega
      unfold law08_FdbCrowds_s4
      by_cases hlt : i < O.length
      · have hw : wr ((i : Int) + 1) = ((i + 1 : Nat) : Int) := by rw [wr_id (by omega) (by omega)]; omega
        obtain ⟨q0, y, hy1, hy2, hy3, hy4⟩ := rem_twice O[i] 12 (by omega) (by omega)
        rw [e12] at hy1 hy2 hy4
        have hy : wr (2 * y) = 2 * y := wr_id (by omega) (by omega)
        rw [decide_eq_true (by omega), cond_true, idx_lt hlt, Option.bind_some, hy1, Option.bind_some, hy2, Option.bind_some, hy, hA]
        unfold law08_FdbCrowds_j3
        rw [hw]
        by_cases he : 2 * y = A
        · rw [show ((2 * y : Int) == A) = true by simpa using he, cond_true]
          exact ih (i + 1) _ D m rfl (by omega) (by omega) hm
        · rw [show ((2 * y : Int) == A) = false by simpa using he, cond_false, h7p]
          have hl := tab_learn (a := A) (ms := (D ++ [A]).take s) hp hs1 hag1 (fun x hx => hok x (List.mem_of_mem_take hx)) (List.Nodup.sublist (List.take_sublist _ _) hnd) htk (x := 2 * y) ⟨y, hy3, hy4, rfl⟩ (q := 7 - p) (by rw [if_neg he])
          show ((fdb_Learn 100 (tab_ A p s ag ((D ++ [A]).take s)) (2 * y) (7 - p) 0).bind fun x121 => _) = _
          rw [hl, Option.bind_some]
          show (bif ((0 : Int) != 0) then _ else _) = _
          rw [show ((0 : Int) != 0) = false from rfl, cond_false]
          have hm' := hm.next (x := 2 * y) ⟨y, hy3, hy4, rfl⟩ he (wr (((mget m (2 * y)).getD 0) + 1))
          have := ih (i + 1) _ _ _ rfl (by omega) (by omega) hm'
          rw [← this]
          have hD : (2 * y :: D.filter fun z => !(z == 2 * y)) ++ [A] = 2 * y :: (D ++ [A]).filter fun z => !(z == 2 * y) := by
            rw [List.filter_append, List.filter_cons, if_pos (by simpa using Ne.symm he)]; rfl
          rw [hD, ← next_take hs1.1 hnd]
          rfl
      · rw [decide_eq_false (by omega), cond_false]
        unfold law08_FdbCrowds_j2
        rw [hA, hs, hag]
        have g := tab_good (a := A) (ms := (D ++ [A]).take s) hp hs1 hag1 (fun x hx => hok x (List.mem_of_mem_take hx)) (List.Nodup.sublist (List.take_sublist _ _) hnd) htk
        show ((fdb_Find 100 (tab_ A p s ag ((D ++ [A]).take s)) A w).bind fun x67 => _) = _
        rw [find_eq (tab_small (by omega)), good_rightB g, okMac_macB hAok, show timeB w = true by unfold timeB inB; rw [decide_eq_true]; omega, Option.bind_some, tab_bk]
        unfold findV
        rw [findE_map]
        have hml : (mE (Value.int .i64) m).length = D.length := by rw [← hm.len]; exact List.length_map _
        rw [hml]
        have hv : ∀ c : Int, law08_FdbCrowds_j1 100 (c, 0) c = some true := fun c => by
          unfold law08_FdbCrowds_j1
          rw [alive_eq, Option.bind_some]; simp
        have hwr : wr (w - 0) = w := by rw [Int.sub_zero]; exact wr_id (by omega) (by omega)
        by_cases hD : D.length < s
        · have hin : A ∈ (D ++ [A]).take s := by rw [List.take_of_length_le (by rw [List.length_append, List.length_singleton]; omega)]; simp
          rw [if_pos hin, decide_eq_false (by omega), Bool.false_or]
          show (bif decide (w > ag) then law08_FdbCrowds_j1 100 (valE (ent_ A p A) w ag, 0) (-1) else law08_FdbCrowds_j1 100 (valE (ent_ A p A) w ag, 0) p) = some true
          have hval : valE (ent_ A p A) w ag = bif decide (w ≤ ag) then p else -1 := by
            unfold valE ent_
            rw [if_pos rfl, hwr]; rfl
          rw [hval]
          by_cases hg : w ≤ ag
          · rw [decide_eq_true hg, decide_eq_false (by omega), cond_true, cond_false]; exact hv p
          · rw [decide_eq_false hg, decide_eq_true (by omega), cond_true, cond_false]; exact hv (-1)
        · have hin : A ∉ (D ++ [A]).take s := by
            rw [List.take_append_of_le_length (by omega)]
            exact fun h => hm.na (List.mem_of_mem_take h)
          rw [if_neg hin, decide_eq_true (by omega), Bool.true_or, cond_true]
          exact hv (-1)) 100
  have := key 0 0 [] [] rfl (by omega) (by omega) ⟨by simp, by simp, by simp, rfl, by simp⟩
  have hnx : next_ s [] A = ([] ++ [A]).take s := by
    unfold next_
    obtain ⟨s', rfl⟩ : ∃ s', s = s' + 1 := ⟨s - 1, by omega⟩
    rw [if_pos (by simp)]; simp
  show loopN (fun _ _ _ _ _ => none) (law08_FdbCrowds_s4 100 s0 g0 p a0 w O) 100 0 [(next_ s [] A).map (ent_ A p)] (s : Int) ag [] = some true
  rw [hnx]
  exact this
end Pure
end Go.Proofs.Ytafjcdpkanigaaa
