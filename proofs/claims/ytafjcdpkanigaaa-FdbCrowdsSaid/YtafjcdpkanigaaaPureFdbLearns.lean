/- The law FdbLearns in plain terms: it comes to true, whatever its arguments. No condition but that whole numbers are Go's. -/
import Derived.Test.YtafjcdpkanigaaaPFdb3
import Derived.Test.YtafjcdpkanigaaaTO
set_option linter.unusedVariables false
set_option linter.unusedSimpArgs false
namespace Go.Proofs.Ytafjcdpkanigaaa

noncomputable def pinB (l : List Entry) (a : Int) : Bool := match findE l a with
  | some e => e.Static
  | none => false
noncomputable def learnT (t : Table) (a p now : Int) : Table := bif pinB (bk t a) a then t else putT t ⟨a, p, now, false⟩
theorem pinned_eq {t : Table} (g : Good t) {a : Int} (ha : macB a = true) : fdb_pinned 100 t a = some (pinB (bk t a) a) := by
  unfold fdb_pinned pinB
  rw [place_eq g ha, Option.bind_some]
  rcases findE_spec (bk t a) a with ⟨h1, h2⟩ | ⟨i, h, h1, h2, _⟩
  · rw [h1, h2]; rfl
  · rw [h1, h2]
    show (bif decide ((i : Int) ≥ 0) then (idx t.Buckets ((bkt a t.Buckets.length : Nat) : Int)).bind fun y15 => (idx y15 (i : Int)).bind fun y25 => some y25.Static else some false) = _
    rw [decide_eq_true (by omega), cond_true, idx_lt (bkt_lt g a), Option.bind_some, bk_get g, idx_lt h, Option.bind_some]
theorem learn_eq {t : Table} (hs : Small t) (a p now : Int) : fdb_Learn 100 t a p now = some (bif rightB t && (macB a && (portB p && timeB now)) then (learnT t a p now, 0) else (⟨[], 0, 0⟩, 1)) := by
  unfold fdb_Learn
  rw [right_impl t hs, Option.bind_some]
  cases hr : rightB t with
  | false => rfl
  | true =>
    have g := rightB_good hr
    rw [Bool.not_true, cond_false, isMac, Option.bind_some, Bool.true_and]
    cases ha : macB a with
    | false => rfl
    | true =>
      rw [Bool.not_true, cond_false, isPort_eq, Option.bind_some, Bool.true_and]
      cases hp : portB p with
      | false => rfl
      | true =>
        rw [Bool.not_true, cond_false, isTime_eq, Option.bind_some, Bool.true_and]
        cases htm : timeB now with
        | false => rfl
        | true =>
          rw [Bool.not_true, cond_false, pinned_eq g ha, Option.bind_some, cond_true]
          unfold learnT
          cases pinB (bk t a) a with
          | true => rfl
          | false =>
            obtain ⟨b, hb⟩ := putImpl (t := t) (e := ⟨a, p, now, false⟩) g ha
            rw [Bool.not_false, cond_true, hb, Option.bind_some]
            rfl
theorem refLearn {t : Table} (g : Good t) {a : Int} (ha : macB a = true) (p now : Int) : ref08_Learn 100 t a p now = some (learnT t a p now) := by
  unfold ref08_Learn learnT pinB
  have hl := bk_len g a
  obtain ⟨b, hb⟩ := refPut (t := t) g ⟨a, p, now, false⟩ ha
  rw [refBk g ha, Option.bind_some, refPlace _ (by omega), Option.bind_some, show findI (fun e => e.Mac == a) (bk t a) = findI (macIs a) (bk t a) from rfl]
  rcases findE_spec (bk t a) a with ⟨h1, h2⟩ | ⟨i, h, h1, h2, _⟩
  · rw [h1, h2, decide_eq_false (by omega), cond_false, hb]; rfl
  · rw [h1, h2, decide_eq_true (by omega), cond_true, idx_lt h, Option.bind_some, hb]
    show (bif (bk t a)[i].Static then _ else _) = some (bif (bk t a)[i].Static then _ else _)
    cases (bk t a)[i].Static <;> rfl
theorem rows_self (l : List Entry) (hl : l.length ≤ 50) : ref08_rows 100 l l = some true := by
  unfold ref08_rows
  rw [show (((l.length : Nat) : Int) != ((l.length : Nat) : Int)) = false by simp, cond_false]
  have key := loop_ind (z := (fun _ => none : Int → Option Bool)) (s := ref08_rows_s2 100 l l) (fun q f => ∀ (i : Nat) (ii : Int), ii = i → i ≤ l.length → l.length - i < q → f ii = some true)
    (fun _ _ _ _ h => by omega) (fun q f ih i ii hii hi hq => by
      subst hii
      unfold ref08_rows_s2
      by_cases hlt : i < l.length
      · rw [decide_eq_true (by omega), cond_true, idx_lt hlt, Option.bind_some, Option.bind_some, xorB_true]
        rw [beq_self_eq_true, beq_self_eq_true, beq_self_eq_true, beq_self_eq_true]
        exact ih (i + 1) _ (by rw [wr_id (by omega) (by omega)]; omega) (by omega) (by omega)
      · rw [decide_eq_false (by omega)]; rfl) 100
  exact key 0 0 rfl (by omega) (by omega)
theorem same_self (t : Table) (ht : t.Buckets.length ≤ 50) (hl : ∀ l ∈ t.Buckets, l.length ≤ 50) : ref08_Same 100 t t = some true := by
  unfold ref08_Same
  rw [show (t.Slots != t.Slots) = false by simp, show (t.Age != t.Age) = false by simp, show (((t.Buckets.length : Nat) : Int) != ((t.Buckets.length : Nat) : Int)) = false by simp, cond_false, cond_false, cond_false]
  have key := loop_ind (z := (fun _ => none : Int → Option Bool)) (s := ref08_Same_s2 100 t t) (fun q f => ∀ (i : Nat) (ii : Int), ii = i → i ≤ t.Buckets.length → t.Buckets.length - i < q → f ii = some true)
    (fun _ _ _ _ h => by omega) (fun q f ih i ii hii hi hq => by
      subst hii
      unfold ref08_Same_s2
      by_cases hlt : i < t.Buckets.length
      · rw [decide_eq_true (by omega), cond_true, idx_lt hlt, Option.bind_some, Option.bind_some, rows_self _ (hl _ (List.getElem_mem hlt)), Option.bind_some]
        exact ih (i + 1) _ (by rw [wr_id (by omega) (by omega)]; omega) (by omega) (by omega)
      · rw [decide_eq_false (by omega)]; rfl) 100
  exact key 0 0 rfl (by omega) (by omega)
theorem same_none : ref08_Same 100 (⟨[], 0, 0⟩ : Table) ⟨[], 0, 0⟩ = some true := same_self _ (by simp) (by simp)
theorem dropNS_len (l : List Entry) : ∀ m, dropNS l = some m → m.length ≤ l.length := by
  induction l with
  | nil => intro m h; simp [dropNS] at h
  | cons e r ih =>
    intro m h
    rw [dropNS] at h
    cases hr : dropNS r with
    | some r' =>
      rw [hr] at h
      obtain rfl := Option.some.inj h
      have := ih r' hr
      rw [List.length_cons, List.length_cons]; omega
    | none =>
      rw [hr] at h
      cases hs : e.Static with
      | true => rw [hs] at h; simp at h
      | false =>
        rw [hs] at h
        obtain rfl : r = m := Option.some.inj h
        rw [List.length_cons]; omega
theorem putL_len {l m : List Entry} {s : Int} {e : Entry} (h : putL l s e = some m) : m.length ≤ l.length + 1 := by
  unfold putL at h
  have ho := others_len l e.Mac
  cases hc : decide (((othersL l e.Mac).length : Int) < s) with
  | true =>
    rw [hc] at h
    obtain rfl : _ = m := Option.some.inj h
    rw [List.length_cons]; omega
  | false =>
    rw [hc] at h
    obtain ⟨x, hx, rfl⟩ := Option.map_eq_some_iff.1 h
    have := dropNS_len _ _ hx
    rw [List.length_cons]; omega
theorem good_len {t : Table} (g : Good t) : ∀ l ∈ t.Buckets, l.length ≤ 4 := by
  intro l hl
  obtain ⟨i, hi, rfl⟩ := List.getElem_of_mem hl
  have := (g.good i hi).2
  have := g.slots
  omega
theorem same_learn {t : Table} (g : Good t) (a p now : Int) : ref08_Same 100 (learnT t a p now) (learnT t a p now) = some true := by
  have hm := g.most
  have hl := good_len g
  refine same_self _ ?_ ?_
  · unfold learnT putT
    cases pinB (bk t a) a with
    | true => show t.Buckets.length ≤ 50; omega
    | false =>
      show List.length (Table.Buckets (match putL (bk t a) t.Slots ⟨a, p, now, false⟩ with | some l => _ | none => t)) ≤ 50
      cases putL (bk t a) t.Slots ⟨a, p, now, false⟩ with
      | none => show t.Buckets.length ≤ 50; omega
      | some l => show (t.Buckets.set _ l).length ≤ 50; rw [List.length_set]; omega
  · unfold learnT putT
    intro l hl'
    cases hp : pinB (bk t a) a with
    | true => rw [hp] at hl'; have := hl l hl'; omega
    | false =>
      rw [hp] at hl'
      have hl2 : l ∈ Table.Buckets (match putL (bk t a) t.Slots ⟨a, p, now, false⟩ with | some l => ⟨t.Buckets.set (bkt a t.Buckets.length) l, t.Slots, t.Age⟩ | none => t) := hl'
      cases hpl : putL (bk t a) t.Slots ⟨a, p, now, false⟩ with
      | none => rw [hpl] at hl2; have := hl l hl2; omega
      | some m =>
        rw [hpl] at hl2
        have h4 := bk_len g a
        have h5 := putL_len hpl
        rcases List.mem_or_eq_of_mem_set hl2 with h | rfl
        · have := hl l h; omega
        · omega
theorem new_eq (n s a : Int) : fdb_New 100 n s a = some (bif sizesB n s a then (⟨List.replicate n.toNat [], s, a⟩, 0) else (⟨[], 0, 0⟩, 2)) := by
  unfold fdb_New
  rw [sizes_eq, Option.bind_some]
  cases h : sizesB n s a with
  | false => rfl
  | true =>
    unfold sizesB at h
    rw [Bool.and_eq_true] at h
    obtain ⟨m, rfl, h1, h2⟩ := sizeB_nat h.1
    rw [Bool.not_true, cond_false, mk_nat (by omega), Option.bind_some, cond_true, Int.toNat_natCast]
theorem refNew {n : Nat} (hn : n ≤ 50) (s a : Int) : ref08_New 100 n s a = some ⟨List.replicate n [], s, a⟩ := by
  unfold ref08_New
  have key := loop_ind (z := (fun _ _ _ _ => none : Int → Int → Int → List (List Entry) → Option Table)) (s := ref08_New_s2 100 n) (fun q f => ∀ (i : Nat) (ii : Int) acc, ii = i → i ≤ n → n - i < q → acc = List.replicate i [] → f ii s a acc = some ⟨List.replicate n [], s, a⟩)
    (fun _ _ _ _ _ h => by omega) (fun q f ih i ii acc hii hi hq hacc => by
      subst hii; subst hacc
      unfold ref08_New_s2
      by_cases hlt : i < n
      · rw [decide_eq_true (by omega), cond_true, push_lt (by rw [List.length_replicate]; omega), Option.bind_some]
        exact ih (i + 1) _ _ (by rw [wr_id (by omega) (by omega)]; omega) (by omega) (by omega) (by rw [List.replicate_succ'])
      · have : i = n := by omega
        subst this
        rw [decide_eq_false (by omega)]; rfl) 100
  exact key 0 0 [] rfl (by omega) (by omega) rfl
theorem alive_eq : law08_alive 100 = some true := by decide +kernel

theorem learns_j1 {t : Table} (hs : Small t) (p4 p5 p6 : Int) (x29 : Table × Int) (x43 : Int × Int) (h29 : x29 = bif rightB t && (macB p4 && (portB p5 && timeB p6)) then (learnT t p4 p5 p6, 0) else (⟨[], 0, 0⟩, 1)) (h43 : x43 = bif rightB t && (macB p4 && timeB p6) then (findV (bk t p4) p4 p6 t.Age, 0) else (0, 1)) : law08_FdbLearns_j1 100 p4 p5 p6 t x29 x43 = some true := by
  unfold law08_FdbLearns_j1
  rw [right_ref t hs, Option.bind_some]
  have hn : ∀ x : Int, (⟨[], 0, 0⟩, 1) = ((⟨[], 0, 0⟩, 1) : Table × Int) := fun _ => rfl
  cases hr : rightB t with
  | false =>
    rw [hr] at h29 h43
    subst h29; subst h43
    show ((ref08_Same 100 (⟨[], 0, 0⟩ : Table) ⟨[], 0, 0⟩).bind fun x135 => some (x135 && ((0 : Int) == 0))) = some true
    rw [same_none]; rfl
  | true =>
    have g := rightB_good hr
    rw [hr] at h29 h43
    rw [Bool.not_true, cond_false, refMac, Option.bind_some]
    cases ha : macB p4 with
    | false =>
      rw [ha] at h29 h43
      subst h29; subst h43
      show ((ref08_Same 100 (⟨[], 0, 0⟩ : Table) ⟨[], 0, 0⟩).bind fun x135 => some (x135 && ((0 : Int) == 0))) = some true
      rw [same_none]; rfl
    | true =>
      rw [ha] at h29 h43
      rw [Bool.not_true, cond_false, refTime, Option.bind_some]
      cases htm : timeB p6 with
      | false =>
        rw [htm] at h29 h43
        rw [Bool.and_false] at h29
        subst h29; subst h43
        show ((ref08_Same 100 (⟨[], 0, 0⟩ : Table) ⟨[], 0, 0⟩).bind fun x135 => some (x135 && ((0 : Int) == 0))) = some true
        rw [same_none]; rfl
      | true =>
        rw [htm] at h29 h43
        rw [Bool.not_true, cond_false]
        subst h43
        show (bif ((0 : Int) != 0) then _ else _) = _
        rw [show ((0 : Int) != 0) = false from rfl, cond_false, refFind g ha, Option.bind_some]
        show (bif (findV (bk t p4) p4 p6 t.Age != findV (bk t p4) p4 p6 t.Age) then _ else _) = _
        rw [show (findV (bk t p4) p4 p6 t.Age != findV (bk t p4) p4 p6 t.Age) = false by simp, cond_false, refPort, Option.bind_some]
        cases hp : portB p5 with
        | false =>
          rw [hp] at h29
          subst h29
          show ((ref08_Same 100 (⟨[], 0, 0⟩ : Table) ⟨[], 0, 0⟩).bind fun x135 => some x135) = some true
          rw [same_none]; rfl
        | true =>
          rw [hp] at h29
          subst h29
          rw [Bool.not_true, cond_false]
          show ((ref08_Learn 100 t p4 p5 p6).bind fun x184 => (ref08_Same 100 (learnT t p4 p5 p6) x184).bind fun x189 => some x189) = some true
          rw [refLearn g ha, Option.bind_some, same_learn g]; rfl
namespace Pure
theorem fdbLearns (n slots age : Int) (t : Table) (a port now : Int) (_ : wfI n) (_ : wfI slots) (_ : wfI age) (_ : wf_Table t) (_ : wfI a) (_ : wfI port) (_ : wfI now) : ∃ k, law08_FdbLearns k n slots age t a port now = some true := by
  refine ⟨100, ?_⟩
  unfold law08_FdbLearns
  have hs := fewT_small t
  rw [few_eq, Option.bind_some, new_eq, Option.bind_some, learn_eq hs, Option.bind_some, find_eq hs, Option.bind_some, right_impl _ hs, Option.bind_some, right_ref _ hs, Option.bind_some, show (rightB (fewT t) != rightB (fewT t)) = false by simp, cond_false, alive_eq, Option.bind_some, Bool.not_true, cond_false, refSizes, Option.bind_some]
  have hj := learns_j1 hs a port now _ _ rfl rfl
  cases hsz : sizesB n slots age with
  | false =>
    rw [Bool.not_false, cond_true]
    show ((ref08_Same 100 (⟨[], 0, 0⟩ : Table) ⟨[], 0, 0⟩).bind fun x255 => bif !x255 then some false else _) = _
    rw [same_none]
    exact hj
  | true =>
    rw [Bool.not_true, cond_false]
    unfold sizesB at hsz
    rw [Bool.and_eq_true] at hsz
    obtain ⟨m, rfl, h1, h2⟩ := sizeB_nat hsz.1
    rw [refNew (by omega)]
    show ((ref08_Same 100 (⟨List.replicate (m : Int).toNat [], slots, age⟩ : Table) ⟨List.replicate m [], slots, age⟩).bind fun x291 => bif !x291 then some false else _) = _
    rw [Int.toNat_natCast, same_self _ (by rw [List.length_replicate]; omega) (fun l hl => by rw [(List.mem_replicate.1 hl).2]; simp)]
    exact hj
end Pure
end Go.Proofs.Ytafjcdpkanigaaa
