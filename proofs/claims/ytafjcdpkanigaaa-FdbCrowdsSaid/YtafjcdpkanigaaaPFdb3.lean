/- Tables: how the program puts an entry. No condition. -/
import Derived.Test.YtafjcdpkanigaaaPFdb2
set_option linter.unusedVariables false
set_option linter.unusedSimpArgs false
namespace Go.Proofs.Ytafjcdpkanigaaa

/-- Numbers, as Go's. -/
def toI (l : List Nat) : List Int := l.map fun i : Nat => (i : Int)
theorem toI_len (l : List Nat) : (toI l).length = l.length := by unfold toI; exact List.length_map _
theorem toI_filter (l : List Nat) (i : Nat) : (toI l).filter (fun x => !(x == (i : Int))) = toI (l.filter fun x => !(x == i)) := by
  unfold toI
  rw [List.filter_map]
  congr 1
  refine List.filter_congr fun x _ => ?_
  simp only [Function.comp]
  congr 1
  rw [Bool.eq_iff_iff, beq_iff_eq, beq_iff_eq]; omega
theorem lruRight (l : List Int) (hl : l.length ≤ 20) (hd : l.Nodup) (h0 : ∀ x ∈ l, 0 ≤ x) : lru_Right 100 l = some true := by
  unfold lru_Right
  have key := loop_ind (z := (fun _ _ => none : Int → List (Int × Int) → Option Bool)) (s := lru_Right_s2 100 l) (fun q f => ∀ (i : Nat) (ii : Int) (m : List (Int × Int)), ii = i → i ≤ l.length → l.length - i < q → (∀ x, (mget m x).getD 0 = if x ∈ l.take i then 1 else 0) → f ii m = some true)
    (fun _ _ _ _ _ h => by omega) (fun q f ih i ii m hii hi hq hm => by
      subst hii
      unfold lru_Right_s2
      by_cases hlt : i < l.length
      · have htk : l.take (i + 1) = l.take i ++ [l[i]] := List.take_succ_eq_append_getElem hlt
        have hnm : l[i] ∉ l.take i := by
          intro hm
          obtain ⟨j, hj, he⟩ := List.getElem_of_mem hm
          rw [List.getElem_take] at he
          have hj' : j < i := by simp at hj; omega
          have := (List.nodup_iff_pairwise_ne.1 hd)
          exact List.pairwise_iff_getElem.1 this j i (by omega) hlt hj' he
        have hn0 := h0 _ (List.getElem_mem hlt)
        rw [decide_eq_true (by omega), cond_true, idx_lt hlt, Option.bind_some, decide_eq_false (by omega), cond_false, mget_mset, if_pos rfl, Option.getD_some, hm, if_neg hnm, show decide (wr (0 + 1) > 1) = false from by decide, cond_false]
        refine ih (i + 1) _ _ (by rw [wr_id (by omega) (by omega)]; omega) (by omega) (by omega) (fun x => ?_)
        rw [mget_mset, htk]
        by_cases hx : l[i] = x
        · rw [if_pos hx, if_pos (by simp [hx])]; decide
        · rw [if_neg hx, hm]
          by_cases hx2 : x ∈ l.take i
          · rw [if_pos hx2, if_pos (List.mem_append_left _ hx2)]
          · rw [if_neg hx2, if_neg (fun h => by
              rcases List.mem_append.1 h with h | h
              · exact hx2 h
              · exact hx (List.mem_singleton.1 h).symm)]
      · rw [decide_eq_false (by omega), cond_false]
        unfold lru_Right_j1
        rw [decide_eq_true (by omega)]) 100
  exact key 0 0 [] rfl (by omega) (by omega) (fun x => rfl)
theorem orderWithout (l : List Int) (hl : l.length ≤ 20) (w : Int) : lru_order_without 100 l w = some (l.filter fun x => !(x == w)) := by
  unfold lru_order_without slices_Clone_59
  rw [cat_le (by simp; omega), Option.bind_some, List.nil_append]
  have hi : slices_IndexFunc_63 100 l (fun x17 => lru_order_without_1 100 x17 w) = some (findI (fun x => x == w) l) :=
    indexLoop l (fun x17 => lru_order_without_1 100 x17 w) (fun x => x == w) (fun _ _ => rfl) (by omega) _ rfl 100 (by omega)
  rw [hi, Option.bind_some]
  rcases findI_spec (p := fun x => x == w) (xs := l) with ⟨h1, h2⟩ | ⟨i, h, h1, h2, h3⟩
  · rw [h1]
    have : l.filter (fun x => !(x == w)) = l := by
      rw [List.filter_eq_self]; intro x hx; rw [h2 x hx]; rfl
    rw [this]; rfl
  · rw [h1, show ((i : Int) == -1) = false by cases i <;> rfl, cond_false, show wr ((i : Int) + 1) = ((i + 1 : Nat) : Int) by rw [wr_id (by omega) (by omega)]; omega]
    have hpre : (l.take i).filter (fun x => !(x == w)) = l.take i := by
      rw [List.filter_eq_self]
      intro x hx
      obtain ⟨j, hj, rfl⟩ := List.getElem_of_mem hx
      have hj' : j < i := by simp at hj; omega
      rw [List.getElem_take, h3 j hj']; rfl
    obtain ⟨l', h4, h5, h6⟩ := deleteLoop (fun x17 => lru_order_without_1 100 x17 w) (fun x => x == w) (fun i l => lru_order_without_j2 100 i l) (lru_order_without_s4 100 w) rfl l (fun _ _ => rfl) (by omega) 100 i (i + 1) l (by omega) (by omega) rfl (by
      rw [List.take_succ_eq_append_getElem h, List.filter_append, hpre, List.filter_cons, h2]; simp) rfl (by omega)
    rw [h6]
    unfold lru_order_without_j2 lru_order_without_j1
    have hle : (l.filter fun x => !(x == w)).length ≤ l.length := List.length_filter_le _ _
    rw [show clr l' (((l.filter fun x => !(x == w)).length : Nat) : Int) 0 = some (l'.take (l.filter fun x => !(x == w)).length ++ List.replicate (l'.length - (l.filter fun x => !(x == w)).length) 0) from by
      unfold clr
      rw [if_pos ⟨by omega, by omega⟩, Int.toNat_natCast], Option.bind_some, h5, slc_to (by simp), Option.bind_some, List.take_left]
theorem lruUse (l : List Int) (hl : l.length ≤ 20) (hd : l.Nodup) (h0 : ∀ x ∈ l, 0 ≤ x) (w : Int) (hw : 0 ≤ w) : lru_Use 100 l w = some (w :: l.filter (fun x => !(x == w)), 0) := by
  unfold lru_Use
  have hle : (l.filter fun x => !(x == w)).length ≤ l.length := List.length_filter_le _ _
  rw [lruRight l hl hd h0, Option.bind_some, decide_eq_false (by omega)]
  unfold lru_order_use
  rw [orderWithout l hl, Option.bind_some, cat_le (by rw [List.length_cons, List.length_nil]; omega), Option.bind_some]
  show (bif decide ((((w :: l.filter fun x => !(x == w)).length : Nat) : Int) > 64) then _ else _) = _
  rw [decide_eq_false (by rw [List.length_cons]; omega)]
  rfl
theorem lruDrop (l : List Int) (hl : l.length ≤ 20) (hd : l.Nodup) (h0 : ∀ x ∈ l, 0 ≤ x) (w : Int) (hw : w ∈ l) : lru_Drop 100 l w = some (l.filter (fun x => !(x == w)), 0) := by
  unfold lru_Drop
  have hlt : (l.filter fun x => !(x == w)).length < l.length := by
    rcases Nat.lt_or_ge (l.filter fun x => !(x == w)).length l.length with h | h
    · exact h
    · have := List.length_filter_eq_length_iff.1 (Nat.le_antisymm (List.length_filter_le _ _) h) w hw
      simp at this
  rw [lruRight l hl hd h0, Option.bind_some, decide_eq_false (by have := h0 w hw; omega), show (!true || false) = false from rfl, cond_false, orderWithout l hl, Option.bind_some, show ((((l.filter fun x => !(x == w)).length : Nat) : Int) == ((l.length : Nat) : Int)) = false by rw [beq_eq_false_iff_ne]; omega]
  rfl

/-! ### the rest of an order, trimmed -/
/-- The last one that is not static. -/
def lastNS (g : Nat → Entry) : List Nat → Option Nat
  | [] => none
  | x :: r => match lastNS g r with
    | some y => some y
    | none => bif (g x).Static then none else some x
theorem lastNS_snoc (g : Nat → Entry) (r : List Nat) (x : Nat) : lastNS g (r ++ [x]) = bif (g x).Static then lastNS g r else some x := by
  induction r with
  | nil => simp only [List.nil_append, lastNS]; try rfl
  | cons y r ih =>
    rw [List.cons_append]
    simp only [lastNS]
    rw [ih]
    cases (g x).Static with
    | true => rfl
    | false => rfl
theorem filter_ne {r : List Nat} {x : Nat} (h : x ∉ r) : r.filter (fun y => !(y == x)) = r := by
  rw [List.filter_eq_self]
  intro y hy
  have : y ≠ x := fun e => h (e ▸ hy)
  simpa using this
theorem lastNS_drop (g : Nat → Entry) : ∀ (n : Nat) (r : List Nat), r.length = n → r.Nodup → (lastNS g r = none ∧ dropNS (r.map g) = none) ∨ ∃ y ∈ r, lastNS g r = some y ∧ dropNS (r.map g) = some ((r.filter fun x => !(x == y)).map g) := by
  intro n
  induction n with
  | zero => intro r hr _; rw [List.eq_nil_of_length_eq_zero hr]; exact .inl ⟨rfl, rfl⟩
  | succ n ih =>
    intro r hr hd
    obtain ⟨r0, x, rfl⟩ : ∃ r0 e, r = r0 ++ [e] := ⟨r.dropLast, r.getLast (by intro h; rw [h] at hr; simp at hr), (List.dropLast_concat_getLast _).symm⟩
    rw [List.nodup_append] at hd
    have hx : x ∉ r0 := fun h => hd.2.2 x h x (by simp) rfl
    rw [lastNS_snoc, List.map_append, List.map_cons, List.map_nil, dropNS_snoc]
    cases hs : (g x).Static with
    | true =>
      rw [cond_true, cond_true]
      rcases ih r0 (by simpa using hr) hd.1 with ⟨h3, h4⟩ | ⟨y, hy, h3, h4⟩
      · exact .inl ⟨h3, by rw [h4]; rfl⟩
      · refine .inr ⟨y, List.mem_append_left _ hy, h3, ?_⟩
        have hne : (x == y) = false := beq_eq_false_iff_ne.2 (fun e => hx (e ▸ hy))
        rw [h4, Option.map_some, List.filter_append, List.filter_cons, hne]
        simp
    | false =>
      rw [cond_false, cond_false]
      refine .inr ⟨x, by simp, rfl, ?_⟩
      rw [List.filter_append, filter_ne hx, List.filter_cons]
      simp

section
variable {t : Table} {e : Entry}
theorem ownT (hs : t.Buckets.length ≤ 20) : fdb_own 100 t = some t := by
  unfold fdb_own
  rw [mk_nat (by omega), Option.bind_some, cpy_self (by simp)]
/-- What is put, out of an order. -/
theorem put_map (g : Good t) (a : Int) (l55 : List Entry) (o : List Nat) (hol : o.length ≤ 10) (ho : ∀ j ∈ o, j < l55.length) (x2 : Int) (u : List (List Entry)) (v w : Int) : fdb_put_j3 100 t (((bkt a t.Buckets.length : Nat) : Int), x2) l55 (toI o) u v w = some (⟨t.Buckets.set (bkt a t.Buckets.length) (o.map fun j => (l55[j]?).getD e), t.Slots, t.Age⟩, true) := by
  unfold fdb_put_j3
  have key := loop_ind (z := (fun _ _ => none : Int → List Entry → Option (Table × Bool))) (s := fdb_put_s2 100 t (((bkt a t.Buckets.length : Nat) : Int), x2) l55 (toI o)) (fun q f => ∀ (i : Nat) (ii : Int) acc, ii = i → i ≤ o.length → o.length - i < q → acc = (o.take i).map (fun j => (l55[j]?).getD e) → f ii acc = some (⟨t.Buckets.set (bkt a t.Buckets.length) (o.map fun j => (l55[j]?).getD e), t.Slots, t.Age⟩, true))
    (fun _ _ _ _ _ h => by omega) (fun q f ih i ii acc hii hi hq hacc => by
      subst hii; subst hacc
      unfold fdb_put_s2
      rw [toI_len]
      by_cases hlt : i < o.length
      · have hj := ho _ (List.getElem_mem hlt)
        have hi1 : idx (toI o) (i : Int) = some ((o[i] : Nat) : Int) := by rw [idx_lt (by rw [toI_len]; exact hlt)]; simp [toI]
        rw [decide_eq_true (by omega), cond_true, hi1, Option.bind_some, idx_lt hj, Option.bind_some, push_lt (by rw [List.length_map, List.length_take]; omega), Option.bind_some]
        refine ih (i + 1) _ _ (by rw [wr_id (by omega) (by omega)]; omega) (by omega) (by omega) ?_
        rw [List.take_succ_eq_append_getElem hlt, List.map_append, List.map_cons, List.map_nil, List.getElem?_eq_getElem hj]; rfl
      · rw [decide_eq_false (by omega), cond_false, List.take_of_length_le (by omega)]
        unfold fdb_put_j1
        have hb := bkt_lt g a
        have hm := g.most
        rw [ownT (by omega), Option.bind_some]
        show ((idx t.Buckets ((bkt a t.Buckets.length : Nat) : Int)).bind fun y108 => (upd t.Buckets ((bkt a t.Buckets.length : Nat) : Int) _).bind fun l126 => some ((⟨l126, t.Slots, t.Age⟩ : Table), true)) = _
        rw [idx_lt hb, Option.bind_some, upd_nat hb, Option.bind_some]) 100
  exact key 0 0 [] rfl (by omega) (by omega) rfl
theorem put_trim (g : Good t) (a : Int) (l55 : List Entry) (i : Nat) (R : List Nat) (hR : R.length ≤ 8) (hd : (i :: R).Nodup) (hb : ∀ j ∈ i :: R, j < l55.length) (x2 : Int) :
    loopN (fun _ => none) (fdb_put_s5 100 t (((bkt a t.Buckets.length : Nat) : Int), x2) l55 (toI (i :: R), 0)) 100 (toI R) =
    match lastNS (fun j => (l55[j]?).getD e) R with
    | none => some (t, false)
    | some y => some (⟨t.Buckets.set (bkt a t.Buckets.length) (((i :: R).filter fun x => !(x == y)).map fun j => (l55[j]?).getD e), t.Slots, t.Age⟩, true) := by
  have key := loop_ind (z := (fun _ => none : List Int → Option (Table × Bool))) (s := fdb_put_s5 100 t (((bkt a t.Buckets.length : Nat) : Int), x2) l55 (toI (i :: R), 0)) (fun q f => ∀ (r : List Nat), r.length < q → r.length ≤ 8 → (∀ j ∈ r, j ∈ R) → f (toI r) = match lastNS (fun j => (l55[j]?).getD e) r with
    | none => some (t, false)
    | some y => some (⟨t.Buckets.set (bkt a t.Buckets.length) (((i :: R).filter fun x => !(x == y)).map fun j => (l55[j]?).getD e), t.Slots, t.Age⟩, true))
    (fun _ h => by omega) (fun q f ih r hq h8 hr => by
      unfold fdb_put_s5
      rw [toI_len]
      rcases List.eq_nil_or_concat r with rfl | ⟨r0, x, rfl⟩
      · rfl
      · rw [List.concat_eq_append] at *
        have hlen : (r0 ++ [x]).length = r0.length + 1 := by simp
        have hxR : x ∈ R := hr x (by simp)
        have hxl := hb x (List.mem_cons_of_mem _ hxR)
        have hw : wr ((((r0 ++ [x]).length : Nat) : Int) - 1) = ((r0.length : Nat) : Int) := by rw [wr_id (by omega) (by omega)]; omega
        have hix : idx (toI (r0 ++ [x])) ((r0.length : Nat) : Int) = some ((x : Nat) : Int) := by rw [idx_nat]; simp [toI]
        rw [decide_eq_true (by omega), cond_true, hw, hix, Option.bind_some, idx_lt hxl, Option.bind_some, lastNS_snoc, show ((l55[x]?).getD e) = l55[x] by rw [List.getElem?_eq_getElem hxl]; rfl]
        cases hs : l55[x].Static with
        | true =>
          rw [cond_true, cond_true, slc_to (by rw [toI_len]; omega), Option.bind_some, show (toI (r0 ++ [x])).take r0.length = toI r0 by simp [toI]]
          exact ih r0 (by omega) (by omega) (fun j hj => hr j (List.mem_append_left _ hj))
        | false =>
          rw [cond_false, cond_false]
          unfold fdb_put_j4
          rw [toI_len, show ((((r0 ++ [x]).length : Nat) : Int) == 0) = false by rw [beq_eq_false_iff_ne]; omega, cond_false, hw, hix, Option.bind_some]
          have hnd : (toI (i :: R)).Nodup := by
            unfold toI
            rw [List.nodup_iff_pairwise_ne, List.pairwise_map]
            exact (List.nodup_iff_pairwise_ne.1 hd).imp (fun h => by omega)
          rw [lruDrop _ (by rw [toI_len, List.length_cons]; omega) hnd (fun x hx => by
            obtain ⟨y, _, rfl⟩ := List.mem_map.1 hx; omega) _ (List.mem_map.2 ⟨x, List.mem_cons_of_mem _ hxR, rfl⟩), Option.bind_some, toI_filter]
          exact put_map g a l55 _ (Nat.le_trans (List.length_filter_le _ _) (by rw [List.length_cons]; omega)) (fun j hj => hb j (List.mem_filter.1 hj).1) x2 _ _ _) 100
  exact key R (by omega) hR (fun _ h => h)
theorem range_build (l : List Entry) (hl : l.length ≤ 8) (x5 : Int × Int) : loopN (fun _ _ => none) (fdb_put_s8 100 t e x5 l) 100 0 [] = fdb_put_j7 100 t e x5 l (toI (List.range l.length)) := by
  have key := loop_ind (z := (fun _ _ => none : Int → List Int → Option (Table × Bool))) (s := fdb_put_s8 100 t e x5 l) (fun q f => ∀ (i : Nat) (ii : Int) acc, ii = i → i ≤ l.length → l.length - i < q → acc = toI (List.range i) → f ii acc = fdb_put_j7 100 t e x5 l (toI (List.range l.length)))
    (fun _ _ _ _ _ h => by omega) (fun q f ih i ii acc hii hi hq hacc => by
      subst hii; subst hacc
      unfold fdb_put_s8
      by_cases hlt : i < l.length
      · rw [decide_eq_true (by omega), cond_true, push_lt (by rw [toI_len, List.length_range]; omega), Option.bind_some]
        refine ih (i + 1) _ _ (by rw [wr_id (by omega) (by omega)]; omega) (by omega) (by omega) ?_
        rw [List.range_succ]; simp [toI]
      · have : i = l.length := by omega
        subst this
        rw [decide_eq_false (by omega), cond_false]) 100
  exact key 0 0 [] rfl (by omega) (by omega) rfl
/-- An order, and what it is of, come to what is put. -/
theorem put_core (g : Good t) (l l40 : List Entry) (i : Nat) (x2 : Int) (hl : l.length ≤ 4) (hi : i < l40.length) (hl40 : l40.length ≤ 5) (hr : ∀ j < l.length, j < l40.length)
    (hmap : ((List.range l.length).filter fun x => !(x == i)).map (fun j => ((l40.set i e)[j]?).getD e) = othersL l e.Mac) : ∃ b, fdb_put_j6 100 t e (((bkt e.Mac t.Buckets.length : Nat) : Int), x2) (toI (List.range l.length)) (i : Int) l40 =
      some (match putL l t.Slots e with
        | some m => ⟨t.Buckets.set (bkt e.Mac t.Buckets.length) m, t.Slots, t.Age⟩
        | none => t, b) := by
  unfold fdb_put_j6
  have hs := g.slots
  have hnd0 : (List.range l.length).Nodup := List.nodup_range
  have hnd : (toI (List.range l.length)).Nodup := by
    unfold toI
    rw [List.nodup_iff_pairwise_ne, List.pairwise_map]
    exact (List.nodup_iff_pairwise_ne.1 hnd0).imp (fun h => by omega)
  rw [idx_lt hi, Option.bind_some, upd_nat hi, Option.bind_some, lruUse _ (by rw [toI_len, List.length_range]; omega) hnd (fun x hx => by
    obtain ⟨y, _, rfl⟩ := List.mem_map.1 hx; omega) _ (by omega), Option.bind_some, toI_filter]
  generalize hR : ((List.range l.length).filter fun x => !(x == i)) = R at hmap
  have hRl : R.length ≤ 4 := by rw [← hR]; exact Nat.le_trans (List.length_filter_le _ _) (by simpa using hl)
  have hRn : (i :: R).Nodup := by
    rw [List.nodup_cons, ← hR]
    exact ⟨fun h => by simpa using (List.mem_filter.1 h).2, List.Nodup.sublist List.filter_sublist hnd0⟩
  have hRb : ∀ j ∈ i :: R, j < (l40.set i e).length := fun j hj => by
    rw [List.length_set]
    rcases List.mem_cons.1 hj with rfl | hj
    · exact hi
    · rw [← hR] at hj
      exact hr j (by simpa using (List.mem_filter.1 hj).1)
  have hRo : R.length = (othersL l e.Mac).length := by rw [← hmap, List.length_map]
  have hgi : ((l40.set i e)[i]?).getD e = e := by rw [List.getElem?_eq_getElem (by rw [List.length_set]; exact hi), List.getElem_set_self]; rfl
  have hc : (((i : Int) :: toI R).length : Int) = (R.length : Int) + 1 := by rw [List.length_cons, toI_len]; omega
  show ∃ b, (bif decide ((((i : Int) :: toI R).length : Int) > t.Slots) then _ else _) = _
  rw [hc]
  unfold putL
  by_cases hcmp : ((othersL l e.Mac).length : Int) < t.Slots
  · rw [decide_eq_false (by omega), decide_eq_true hcmp, cond_false, cond_true]
    have := put_map (e := e) g e.Mac (l40.set i e) (i :: R) (by rw [List.length_cons]; omega) hRb x2 [] 0 0
    refine ⟨true, Eq.trans this ?_⟩
    rw [List.map_cons, hgi, hmap]
  · rw [decide_eq_true (by omega), decide_eq_false hcmp, cond_true, cond_false]
    have h1 : slc ((i : Int) :: toI R) 1 (((i : Int) :: toI R).length : Int) = some (toI R) := by
      have := slc_from (xs := (i : Int) :: toI R) (n := 1) (by rw [List.length_cons]; omega)
      simpa using this
    rw [hc] at h1
    rw [show ((i : Int) :: toI R, (0 : Int)).fst = (i : Int) :: toI R from rfl, h1, Option.bind_some]
    unfold slices_Clone_41
    rw [cat_le (by rw [toI_len]; simp; omega), Option.bind_some, List.nil_append]
    have := put_trim (e := e) g e.Mac (l40.set i e) i R (by omega) hRn hRb x2
    rcases lastNS_drop (fun j => ((l40.set i e)[j]?).getD e) _ R rfl (List.nodup_cons.1 hRn).2 with ⟨h3, h4⟩ | ⟨y, hy, h3, h4⟩
    · refine ⟨false, Eq.trans this ?_⟩
      rw [h3, ← hmap, h4]; rfl
    · refine ⟨true, Eq.trans this ?_⟩
      have hne : (i == y) = false := beq_eq_false_iff_ne.2 (fun e => (List.nodup_cons.1 hRn).1 (e ▸ hy))
      rw [h3, ← hmap, h4]
      simp only [List.filter_cons, hne, Bool.not_false, if_true, List.map_cons, hgi, Option.map_some]
theorem map_range {l : List Entry} (d : Entry) : (List.range l.length).map (fun j => (l[j]?).getD d) = l := by
  refine List.ext_getElem? fun i => ?_
  rw [List.getElem?_map]
  by_cases h : i < l.length
  · rw [List.getElem?_range h, List.getElem?_eq_getElem h]; simp [h]
  · rw [List.getElem?_eq_none (by simpa using h), List.getElem?_eq_none (by omega)]; rfl
theorem putImpl (g : Good t) (ha : macB e.Mac = true) : ∃ b, fdb_put 100 t e = some (putT t e, b) := by
  unfold fdb_put putT
  have hl := bk_len g e.Mac
  obtain ⟨h1, h2, h3⟩ := bk_good g e.Mac
  rw [place_eq g ha, Option.bind_some, idx_lt (bkt_lt g e.Mac), Option.bind_some, bk_get g]
  unfold slices_Clone
  rw [cat_le (by simp; omega), Option.bind_some, List.nil_append, range_build _ (by omega)]
  generalize hL : bk t e.Mac = l at *
  unfold fdb_put_j7
  rcases findE_spec l e.Mac with ⟨h4, h5⟩ | ⟨i, hi, h4, h5, h6⟩
  · have hno : ∀ x ∈ l, x.Mac ≠ e.Mac := fun x hx he => by
      have := List.find?_eq_none.1 h5 x hx
      unfold macIs at this
      simp [he] at this
    rw [h4]
    show ∃ b, (bif decide ((-1 : Int) < 0) then _ else _) = _
    rw [decide_eq_true (by omega), cond_true, push_lt (by omega), Option.bind_some]
    refine put_core g l (l ++ [e]) l.length (-1) hl (by simp) (by simp; omega) (fun j hj => by simp; omega) ?_
    rw [filter_ne (by simp), others_all hno]
    conv => rhs; rw [← map_range (l := l) e]
    refine List.map_congr_left fun j hj => ?_
    have hj' : j < l.length := by simpa using hj
    rw [List.getElem?_set_ne (by omega), List.getElem?_append_left hj']
  · rw [h4]
    show ∃ b, (bif decide ((i : Int) < 0) then _ else _) = _
    rw [decide_eq_false (by omega), cond_false]
    refine put_core g l l i (i : Int) hl hi (by omega) (fun j hj => hj) ?_
    conv => rhs; rw [← map_range (l := l) e]
    unfold othersL
    rw [List.filter_map]
    have hf : (List.range l.length).filter (fun x => !(x == i)) = (List.range l.length).filter ((fun x => !(macIs e.Mac x)) ∘ fun j => (l[j]?).getD e) := by
      refine List.filter_congr fun j hj => ?_
      have hj' : j < l.length := by simpa using hj
      simp only [Function.comp, List.getElem?_eq_getElem hj', Option.getD_some]
      congr 1
      unfold macIs
      rw [Bool.eq_iff_iff, beq_iff_eq, beq_iff_eq]
      constructor
      · intro h; subst h; exact h6
      · intro h
        have h7 : (l.map (·.Mac))[j]'(by simpa using hj') = (l.map (·.Mac))[i]'(by simpa using hi) := by simp [h, h6]
        exact (List.getElem_inj h2).1 h7
    rw [hf]
    refine List.map_congr_left fun j hj => ?_
    rw [← hf] at hj
    have hne : j ≠ i := by simpa using (List.mem_filter.1 hj).2
    rw [List.getElem?_set_ne (Ne.symm hne)]
end
end Go.Proofs.Ytafjcdpkanigaaa
