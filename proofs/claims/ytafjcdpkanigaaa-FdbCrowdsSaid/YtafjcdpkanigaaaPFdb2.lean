/- Tables: finding and learning, as the program and the reference do it. No condition. -/
import Derived.Test.YtafjcdpkanigaaaPFdb
set_option linter.unusedVariables false
set_option linter.unusedSimpArgs false
namespace Go.Proofs.Ytafjcdpkanigaaa

/-! ### what a table that may be is like -/
theorem goodL_spec {b n : Nat} : ∀ {prev : List Int} {l : List Entry}, goodL b n prev l = true → (∀ e ∈ l, entryB e b n = true ∧ e.Mac ∉ prev) ∧ (l.map (·.Mac)).Nodup := by
  intro prev l
  induction l generalizing prev with
  | nil => intro _; exact ⟨by simp, by simp⟩
  | cons e l ih =>
    intro h
    rw [goodL, Bool.and_eq_true, Bool.and_eq_true] at h
    obtain ⟨h1, h2, h3⟩ := h
    obtain ⟨h4, h5⟩ := ih h3
    have h2' : e.Mac ∉ prev := by simpa using h2
    refine ⟨fun x hx => ?_, ?_⟩
    · rcases List.mem_cons.1 hx with rfl | hx
      · exact ⟨h1, h2'⟩
      · exact ⟨(h4 x hx).1, fun hm => (h4 x hx).2 (List.mem_append_left _ hm)⟩
    · rw [List.map_cons, List.nodup_cons]
      refine ⟨fun hm => ?_, h5⟩
      obtain ⟨x, hx, hxe⟩ := List.mem_map.1 hm
      exact (h4 x hx).2 (List.mem_append_right _ (by rw [hxe]; exact List.mem_singleton.2 rfl))
theorem goodBs_spec {n : Nat} {s : Int} : ∀ {b : Nat} {bs : List (List Entry)}, goodBs n s b bs = true → ∀ (i : Nat) (h : i < bs.length), goodL (b + i) n [] bs[i] = true ∧ (bs[i].length : Int) ≤ s := by
  intro b bs
  induction bs generalizing b with
  | nil => intro _ i h; simp at h
  | cons l bs ih =>
    intro h i hi
    rw [goodBs, Bool.and_eq_true, Bool.and_eq_true] at h
    obtain ⟨h1, h2, h3⟩ := h
    cases i with
    | zero => exact ⟨h1, of_decide_eq_true h2⟩
    | succ i =>
      have := ih h3 i (by simpa using hi)
      rw [show b + (i + 1) = b + 1 + i by omega]
      exact this
structure Good (t : Table) : Prop where
  size : sizeB t.Buckets.length = true
  pos : 0 < t.Buckets.length
  most : t.Buckets.length ≤ 16
  slots : 1 ≤ t.Slots ∧ t.Slots ≤ 4
  age : 1 ≤ t.Age ∧ t.Age ≤ 1048576
  good : ∀ (i : Nat) (h : i < t.Buckets.length), goodL i t.Buckets.length [] t.Buckets[i] = true ∧ (t.Buckets[i].length : Int) ≤ t.Slots
theorem rightB_good {t : Table} (h : rightB t = true) : Good t := by
  unfold rightB sizesB inB at h
  rw [Bool.and_eq_true, Bool.and_eq_true, Bool.and_eq_true] at h
  obtain ⟨⟨h1, h2, h3⟩, h4⟩ := h
  obtain ⟨m, h5, h6, h7⟩ := sizeB_nat h1
  refine ⟨h1, by omega, by omega, of_decide_eq_true h2, of_decide_eq_true h3, fun i hi => ?_⟩
  have := goodBs_spec h4 i hi
  rw [Nat.zero_add] at this
  exact this
theorem good_rightB {t : Table} (h : Good t) : rightB t = true := by
  unfold rightB sizesB inB
  rw [h.size, decide_eq_true h.slots, decide_eq_true h.age]
  have key : ∀ (bs : List (List Entry)) (b : Nat), (∀ (i : Nat) (h : i < bs.length), goodL (b + i) t.Buckets.length [] bs[i] = true ∧ (bs[i].length : Int) ≤ t.Slots) → goodBs t.Buckets.length t.Slots b bs = true := by
    intro bs
    induction bs with
    | nil => intro b _; rfl
    | cons l bs ih =>
      intro b hb
      have h0 := hb 0 (by simp)
      rw [goodBs, Bool.and_eq_true, Bool.and_eq_true]
      refine ⟨h0.1, decide_eq_true h0.2, ih (b + 1) (fun i hi => ?_)⟩
      have := hb (i + 1) (by simpa using hi)
      rw [show b + 1 + i = b + (i + 1) by omega]
      exact this
  rw [key t.Buckets 0 (fun i hi => by rw [Nat.zero_add]; exact h.good i hi)]
  rfl
noncomputable def bk (t : Table) (a : Int) : List Entry := (t.Buckets[bkt a t.Buckets.length]?).getD []
theorem bkt_lt {t : Table} (g : Good t) (a : Int) : bkt a t.Buckets.length < t.Buckets.length := Nat.mod_lt _ g.pos
theorem bk_get {t : Table} (g : Good t) (a : Int) : t.Buckets[bkt a t.Buckets.length]'(bkt_lt g a) = bk t a := by
  unfold bk; rw [List.getElem?_eq_getElem (bkt_lt g a)]; rfl
theorem bk_good {t : Table} (g : Good t) (a : Int) : (∀ e ∈ bk t a, entryB e (bkt a t.Buckets.length) t.Buckets.length = true) ∧ ((bk t a).map (·.Mac)).Nodup ∧ ((bk t a).length : Int) ≤ t.Slots := by
  obtain ⟨h1, h2⟩ := g.good _ (bkt_lt g a)
  rw [bk_get g] at h1 h2
  obtain ⟨h3, h4⟩ := goodL_spec h1
  exact ⟨fun e he => (h3 e he).1, h4, h2⟩
theorem bk_len {t : Table} (g : Good t) (a : Int) : (bk t a).length ≤ 4 := by
  have := (bk_good g a).2.2; have := g.slots; omega

/-! ### finding -/
def macIs (a : Int) (e : Entry) : Bool := e.Mac == a
theorem place_eq {t : Table} (g : Good t) {a : Int} (ha : macB a = true) : fdb_place 100 t a = some (((bkt a t.Buckets.length : Nat) : Int), findI (macIs a) (bk t a)) := by
  unfold fdb_place
  rw [hashBucket (macB_range ha) g.size, Option.bind_some, idx_lt (bkt_lt g a), Option.bind_some, bk_get g]
  have hl := bk_len g a
  have : slices_IndexFunc 100 (bk t a) (fun x30 => fdb_place_1 100 x30 a) = some (findI (macIs a) (bk t a)) :=
    indexLoop (bk t a) (fun x30 => fdb_place_1 100 x30 a) (macIs a) (fun _ _ => rfl) (by omega) _ rfl 100 (by omega)
  rw [this]; rfl
theorem refBk {t : Table} (g : Good t) {a : Int} (ha : macB a = true) : ref08_bucket 100 t a = some (bk t a) := by
  unfold ref08_bucket
  rw [refBucket (macB_range ha) g.pos, Option.bind_some, idx_lt (bkt_lt g a), Option.bind_some, bk_get g]
def findE (l : List Entry) (a : Int) : Option Entry := l.find? (macIs a)
theorem findE_spec (l : List Entry) (a : Int) : (findI (macIs a) l = -1 ∧ findE l a = none) ∨ ∃ i, ∃ h : i < l.length, findI (macIs a) l = i ∧ findE l a = some l[i] ∧ l[i].Mac = a := by
  unfold findE
  induction l with
  | nil => exact .inl ⟨rfl, rfl⟩
  | cons e l ih =>
    rw [findI_cons, List.find?_cons]
    cases hm : macIs a e with
    | true => exact .inr ⟨0, by simp, rfl, rfl, by simpa [macIs] using hm⟩
    | false =>
      rw [cond_false]
      rcases ih with ⟨h1, h2⟩ | ⟨i, h, h1, h2, h3⟩
      · exact .inl ⟨by rw [h1]; rfl, h2⟩
      · refine .inr ⟨i + 1, by simpa using h, ?_, by simpa using h2, by simpa using h3⟩
        have hne : ((i : Int) == -1) = false := by cases i <;> rfl
        rw [h1, hne]; simp
/-- What is found. -/
def valE (e : Entry) (now age : Int) : Int := bif e.Static then e.Port else bif decide (wr (now - e.Seen) ≤ age) then e.Port else -1
def findV (l : List Entry) (a now age : Int) : Int := match findE l a with
  | none => -1
  | some e => valE e now age
def timeB (n : Int) : Bool := inB n 0 1099511627776
def portB (n : Int) : Bool := inB n 0 7
theorem isTime_eq (n : Int) : fdb_isTime 100 n = some (timeB n) := by unfold fdb_isTime; rw [in_eq]; rfl
theorem isPort_eq (n : Int) : fdb_isPort 100 n = some (portB n) := by unfold fdb_isPort; rw [in_eq]; rfl
theorem refTime (n : Int) : ref08_Time 100 n = some (timeB n) := by unfold ref08_Time timeB inB; congr 1; rw [Bool.eq_iff_iff]; simp
theorem refPort (n : Int) : ref08_Port 100 n = some (portB n) := by unfold ref08_Port portB inB; congr 1; rw [Bool.eq_iff_iff]; simp
theorem find_eq {t : Table} (hs : Small t) (a now : Int) : fdb_Find 100 t a now = some (bif rightB t && (macB a && timeB now) then (findV (bk t a) a now t.Age, 0) else (0, 1)) := by
  unfold fdb_Find
  rw [right_impl t hs, Option.bind_some]
  cases hr : rightB t with
  | false => rfl
  | true =>
    have g := rightB_good hr
    rw [Bool.not_true, cond_false, isMac, Option.bind_some, Bool.true_and]
    cases ha : macB a with
    | false => rfl
    | true =>
      rw [Bool.not_true, cond_false, isTime_eq, Option.bind_some, Bool.true_and]
      cases htm : timeB now with
      | false => rfl
      | true =>
        rw [Bool.not_true, cond_false, place_eq g ha, Option.bind_some, cond_true]
        unfold findV
        rcases findE_spec (bk t a) a with ⟨h1, h2⟩ | ⟨i, h, h1, h2, _⟩
        · rw [h1, h2]; rfl
        · rw [h1, h2]
          rw [decide_eq_false (by omega), cond_false, idx_lt (bkt_lt g a), Option.bind_some, bk_get g, idx_lt h, Option.bind_some]
          have key : ∀ e : Entry, (bif e.Static then some (e.Port, (0 : Int)) else (bif decide (wr (now - e.Seen) ≤ t.Age) then some (e.Port, 0) else some (-1, 0))) = some (valE e now t.Age, 0) := fun e => by
            unfold valE
            cases e.Static <;> cases decide (wr (now - e.Seen) ≤ t.Age) <;> rfl
          exact key _
theorem refFind {t : Table} (g : Good t) {a : Int} (ha : macB a = true) (now : Int) : ref08_Find 100 t a now = some (findV (bk t a) a now t.Age) := by
  unfold ref08_Find
  have hl := bk_len g a
  rw [refBk g ha, Option.bind_some, refPlace _ (by omega), Option.bind_some]
  show (bif decide (findI (macIs a) (bk t a) < 0) then _ else _) = _
  unfold findV
  rcases findE_spec (bk t a) a with ⟨h1, h2⟩ | ⟨i, h, h1, h2, _⟩
  · rw [h1, h2]; rfl
  · rw [show findI (fun e => e.Mac == a) (bk t a) = findI (macIs a) (bk t a) from rfl, h1, h2, decide_eq_false (by omega), cond_false, idx_lt h, Option.bind_some]
    have key : ∀ e : Entry, ((ref08_Old 100 t e now).bind fun x58 => bif x58 then some (-1) else ((some (bk t a)[i]).bind fun y88 => some y88.Port)) = some (bif !e.Static && decide (wr (now - e.Seen) > t.Age) then -1 else (bk t a)[i].Port) := fun e => by
      unfold ref08_Old
      cases e.Static with
      | true => rw [Bool.not_true, cond_false, Option.bind_some, cond_false]; rfl
      | false =>
        rw [Bool.not_false, cond_true, Option.bind_some]
        cases decide (wr (now - e.Seen) > t.Age) <;> rfl
    rw [key]
    show some _ = some (valE _ _ _)
    generalize (bk t a)[i] = e
    unfold valE
    cases e.Static with
    | true => rfl
    | false =>
      by_cases hc : wr (now - e.Seen) ≤ t.Age
      · rw [decide_eq_false (by omega), decide_eq_true hc]; rfl
      · rw [decide_eq_true (by omega), decide_eq_false hc]; rfl

/-! ### an entry put -/
/-- All but the last one that is not static; none: there is no such. -/
def dropNS : List Entry → Option (List Entry)
  | [] => none
  | e :: r => match dropNS r with
    | some r' => some (e :: r')
    | none => bif e.Static then none else some r
theorem dropNS_snoc (r : List Entry) (e : Entry) : dropNS (r ++ [e]) = bif e.Static then (dropNS r).map (· ++ [e]) else some r := by
  induction r with
  | nil => simp only [List.nil_append, dropNS]; cases e.Static <;> rfl
  | cons x r ih =>
    rw [List.cons_append]
    simp only [dropNS]
    rw [ih]
    cases he : e.Static with
    | false => rfl
    | true =>
      simp only [cond_true]
      cases dropNS r with
      | some r' => rfl
      | none => simp only [Option.map_none]; cases x.Static <;> rfl
def othersL (l : List Entry) (a : Int) : List Entry := l.filter fun e => !(macIs a e)
/-- A bucket with an entry put. -/
def putL (l : List Entry) (slots : Int) (e : Entry) : Option (List Entry) :=
  bif decide (((othersL l e.Mac).length : Int) < slots) then some (e :: othersL l e.Mac) else (dropNS (othersL l e.Mac)).map (e :: ·)
theorem refWithout (l : List Entry) (hl : l.length ≤ 8) (a : Int) : ref08_without 100 l a = some (othersL l a) := by
  unfold ref08_without
  have key := loop_ind (z := (fun _ _ => none : Int → List Entry → Option (List Entry))) (s := ref08_without_s3 100 l a) (fun q f => ∀ (i : Nat) (ii : Int) acc, ii = i → i ≤ l.length → l.length - i < q → acc = othersL (l.take i) a → f ii acc = some (othersL l a))
    (fun _ _ _ _ _ h => by omega) (fun q f ih i ii acc hii hi hq hacc => by
      subst hii; subst hacc
      unfold ref08_without_s3
      by_cases hlt : i < l.length
      · have hw : wr ((i : Int) + 1) = ((i + 1 : Nat) : Int) := by rw [wr_id (by omega) (by omega)]; omega
        have hfl : (othersL (l.take i) a).length ≤ 8 := Nat.le_trans (List.length_filter_le _ _) (by simp; omega)
        rw [decide_eq_true (by omega), cond_true, idx_lt hlt, Option.bind_some]
        have htk : othersL (l.take (i + 1)) a = othersL (l.take i) a ++ (if macIs a l[i] then [] else [l[i]]) := by
          unfold othersL
          rw [List.take_succ_eq_append_getElem hlt, List.filter_append, List.filter_cons, List.filter_nil]
          cases macIs a l[i] <;> rfl
        cases hm : macIs a l[i] with
        | true =>
          rw [show (l[i].Mac != a) = false by unfold macIs at hm; simpa using hm, cond_false]
          unfold ref08_without_j2
          rw [hw]
          exact ih (i + 1) _ _ rfl (by omega) (by omega) (by rw [htk, hm]; simp)
        | false =>
          rw [show (l[i].Mac != a) = true by unfold macIs at hm; simpa using hm, cond_true, push_lt (by omega), Option.bind_some]
          unfold ref08_without_j2
          rw [hw]
          exact ih (i + 1) _ _ rfl (by omega) (by omega) (by rw [htk, hm]; simp)
      · rw [decide_eq_false (by omega), cond_false, List.take_of_length_le (by omega)]; rfl) 100
  exact key 0 0 [] rfl (by omega) (by omega) rfl
/-- The last one that is not static. -/
def lastI : List Entry → Int
  | [] => -1
  | e :: r => bif lastI r == -1 then (bif e.Static then -1 else 0) else lastI r + 1
theorem lastI_ge (l : List Entry) : -1 ≤ lastI l ∧ lastI l < l.length := by
  induction l with
  | nil => simp [lastI]
  | cons e r ih =>
    rw [lastI]
    cases h : lastI r == -1 with
    | true => rw [cond_true]; cases e.Static <;> simp <;> omega
    | false => rw [cond_false]; simp; omega
theorem lastI_snoc (r : List Entry) (e : Entry) : lastI (r ++ [e]) = bif e.Static then lastI r else r.length := by
  induction r with
  | nil => simp [lastI]
  | cons x r ih =>
    rw [List.cons_append, lastI, ih]
    cases e.Static with
    | true => rfl
    | false =>
      rw [cond_false, cond_false]
      have : ((r.length : Int) == -1) = false := by cases r.length <;> rfl
      rw [this, cond_false]; simp
theorem refLast (l : List Entry) (hl : l.length ≤ 8) : ref08_last 100 l = some (lastI l) := by
  unfold ref08_last
  have key := loop_ind (z := (fun _ _ => none : Int → Int → Option Int)) (s := ref08_last_s3 100 l) (fun q f => ∀ (i : Nat) (ii acc : Int), ii = i → i ≤ l.length → l.length - i < q → acc = lastI (l.take i) → f acc ii = some (lastI l))
    (fun _ _ _ _ _ h => by omega) (fun q f ih i ii acc hii hi hq hacc => by
      subst hii; subst hacc
      unfold ref08_last_s3
      by_cases hlt : i < l.length
      · have hw : wr ((i : Int) + 1) = ((i + 1 : Nat) : Int) := by rw [wr_id (by omega) (by omega)]; omega
        rw [decide_eq_true (by omega), cond_true, idx_lt hlt, Option.bind_some]
        have htk : lastI (l.take (i + 1)) = bif l[i].Static then lastI (l.take i) else i := by
          rw [List.take_succ_eq_append_getElem hlt, lastI_snoc, List.length_take, Nat.min_eq_left hi]
        unfold ref08_last_j2
        rw [hw]
        cases hm : l[i].Static with
        | true => rw [Bool.not_true, cond_false]; exact ih (i + 1) _ _ rfl (by omega) (by omega) (by rw [htk, hm]; rfl)
        | false => rw [Bool.not_false, cond_true]; exact ih (i + 1) _ _ rfl (by omega) (by omega) (by rw [htk, hm]; rfl)
      · rw [decide_eq_false (by omega), cond_false, List.take_of_length_le (by omega)]; rfl) 100
  exact key 0 0 (-1) rfl (by omega) (by omega) rfl
theorem nodup_snoc {r : List Entry} {e : Entry} (h : ((r ++ [e]).map (·.Mac)).Nodup) : (r.map (·.Mac)).Nodup ∧ ∀ x ∈ r, x.Mac ≠ e.Mac := by
  rw [List.map_append, List.nodup_append] at h
  exact ⟨h.1, fun x hx hne => h.2.2 x.Mac (List.mem_map.2 ⟨x, hx, rfl⟩) e.Mac (by simp) hne⟩
theorem others_all {r : List Entry} {a : Int} (h : ∀ x ∈ r, x.Mac ≠ a) : othersL r a = r := by
  unfold othersL
  rw [List.filter_eq_self]
  intro x hx
  have := h x hx
  simpa [macIs] using this
theorem last_drop : ∀ (n : Nat) (r : List Entry), r.length = n → (r.map (·.Mac)).Nodup → (lastI r = -1 ∧ dropNS r = none) ∨ ∃ i, ∃ h : i < r.length, lastI r = i ∧ dropNS r = some (othersL r r[i].Mac) := by
  intro n
  induction n with
  | zero => intro r hr _; rw [List.eq_nil_of_length_eq_zero hr]; exact .inl ⟨rfl, rfl⟩
  | succ n ih =>
    intro r hr hd
    obtain ⟨r0, e, rfl⟩ : ∃ r0 e, r = r0 ++ [e] := ⟨r.dropLast, r.getLast (by intro h; rw [h] at hr; simp at hr), (List.dropLast_concat_getLast _).symm⟩
    obtain ⟨h1, h2⟩ := nodup_snoc hd
    rw [lastI_snoc, dropNS_snoc]
    have hoth : ∀ a, othersL (r0 ++ [e]) a = othersL r0 a ++ (if macIs a e then [] else [e]) := fun a => by
      unfold othersL; rw [List.filter_append, List.filter_cons, List.filter_nil]; cases macIs a e <;> rfl
    cases hs : e.Static with
    | true =>
      rw [cond_true, cond_true]
      rcases ih r0 (by simpa using hr) h1 with ⟨h3, h4⟩ | ⟨i, hi, h3, h4⟩
      · exact .inl ⟨h3, by rw [h4]; rfl⟩
      · refine .inr ⟨i, by simp; omega, h3, ?_⟩
        rw [h4, Option.map_some, List.getElem_append_left hi, hoth]
        have : macIs r0[i].Mac e = false := by
          have := h2 _ (List.getElem_mem hi)
          unfold macIs; exact beq_eq_false_iff_ne.2 (Ne.symm this)
        rw [this]; rfl
    | false =>
      rw [cond_false, cond_false]
      refine .inr ⟨r0.length, by simp, rfl, ?_⟩
      rw [List.getElem_append_right (Nat.le_refl _)]
      simp only [Nat.sub_self, List.getElem_cons_zero]
      rw [hoth, others_all h2]
      simp [macIs]
theorem others_nodup {l : List Entry} (h : (l.map (·.Mac)).Nodup) (a : Int) : ((othersL l a).map (·.Mac)).Nodup :=
  List.Nodup.sublist ((List.filter_sublist).map _) h
theorem others_len (l : List Entry) (a : Int) : (othersL l a).length ≤ l.length := List.length_filter_le _ _
theorem refWith (t : Table) (hs : t.Buckets.length ≤ 20) (hp : 0 < t.Buckets.length) {a : Int} (ha : macB a = true) (l : List Entry) : ref08_with 100 t a l = some ⟨t.Buckets.set (bkt a t.Buckets.length) l, t.Slots, t.Age⟩ := by
  unfold ref08_with
  have key := loop_ind (z := (fun _ _ => none : Int → List (List Entry) → Option Table)) (s := ref08_with_s3 100 t a l) (fun q f => ∀ (i : Nat) (ii : Int) acc, ii = i → i ≤ t.Buckets.length → t.Buckets.length - i < q → acc = (t.Buckets.set (bkt a t.Buckets.length) l).take i → f ii acc = some ⟨t.Buckets.set (bkt a t.Buckets.length) l, t.Slots, t.Age⟩)
    (fun _ _ _ _ _ h => by omega) (fun q f ih i ii acc hii hi hq hacc => by
      subst hii; subst hacc
      unfold ref08_with_s3
      by_cases hlt : i < t.Buckets.length
      · have hw : wr ((i : Int) + 1) = ((i + 1 : Nat) : Int) := by rw [wr_id (by omega) (by omega)]; omega
        rw [decide_eq_true (by omega), cond_true, idx_lt hlt, Option.bind_some, refBucket (macB_range ha) hp, Option.bind_some]
        have htk : (t.Buckets.set (bkt a t.Buckets.length) l).take (i + 1) = (t.Buckets.set (bkt a t.Buckets.length) l).take i ++ [if bkt a t.Buckets.length = i then l else t.Buckets[i]] := by
          rw [List.take_succ_eq_append_getElem (by simpa using hlt), List.getElem_set]
        have hlen : ((t.Buckets.set (bkt a t.Buckets.length) l).take i).length < 4294967296 := by simp; omega
        unfold ref08_with_j2
        rw [hw]
        by_cases hb : bkt a t.Buckets.length = i
        · rw [show ((i : Int) == ((bkt a t.Buckets.length : Nat) : Int)) = true by rw [hb]; simp, cond_true, push_lt hlen, Option.bind_some]
          exact ih (i + 1) _ _ rfl (by omega) (by omega) (by rw [htk, if_pos hb])
        · rw [show ((i : Int) == ((bkt a t.Buckets.length : Nat) : Int)) = false by rw [beq_eq_false_iff_ne]; omega, cond_false, push_lt hlen, Option.bind_some]
          exact ih (i + 1) _ _ rfl (by omega) (by omega) (by rw [htk, if_neg hb])
      · rw [decide_eq_false (by omega), cond_false, List.take_of_length_le (by simp; omega)]; rfl) 100
  exact key 0 0 [] rfl (by omega) (by omega) (by simp)
noncomputable def putT (t : Table) (e : Entry) : Table := match putL (bk t e.Mac) t.Slots e with
  | some l => ⟨t.Buckets.set (bkt e.Mac t.Buckets.length) l, t.Slots, t.Age⟩
  | none => t
theorem refPut {t : Table} (g : Good t) (e : Entry) (ha : macB e.Mac = true) : ∃ b, ref08_put 100 t e = some (putT t e, b) := by
  unfold ref08_put putT putL
  have hl := bk_len g e.Mac
  obtain ⟨h1, h2, h3⟩ := bk_good g e.Mac
  have ho := others_len (bk t e.Mac) e.Mac
  have hon := others_nodup h2 e.Mac
  have hm := g.most
  rw [refBk g ha, Option.bind_some, refWithout _ (by omega), Option.bind_some]
  have hj : ∀ m : List Entry, m.length ≤ 8 → ref08_put_j1 100 t e m [] 0 0 = some (⟨t.Buckets.set (bkt e.Mac t.Buckets.length) (e :: m), t.Slots, t.Age⟩, true) := by
    intro m hml
    unfold ref08_put_j1
    rw [cat_le (by rw [List.length_cons, List.length_nil]; omega), Option.bind_some, refWith t (by omega) g.pos ha]; rfl
  by_cases hc : ((othersL (bk t e.Mac) e.Mac).length : Int) < t.Slots
  · rw [show (((othersL (bk t e.Mac) e.Mac).length : Int) == t.Slots) = false by rw [beq_eq_false_iff_ne]; omega, cond_false, decide_eq_true hc, cond_true, hj _ (by omega)]
    exact ⟨_, rfl⟩
  · rw [show (((othersL (bk t e.Mac) e.Mac).length : Int) == t.Slots) = true by rw [beq_iff_eq]; omega, cond_true, decide_eq_false hc, cond_false, refLast _ (by omega), Option.bind_some]
    rcases last_drop _ _ rfl hon with ⟨h4, h5⟩ | ⟨i, hi, h4, h5⟩
    · rw [h4, h5]; exact ⟨_, rfl⟩
    · rw [h4, h5, decide_eq_false (by omega), cond_false, idx_lt hi, Option.bind_some, refWithout _ (by omega), Option.bind_some, hj _ (Nat.le_trans (others_len _ _) (by omega))]
      exact ⟨_, rfl⟩
end Go.Proofs.Ytafjcdpkanigaaa
