/- Tables: what the program and the reference come to. No condition. -/
import Derived.Test.YtafjcdpkanigaaaPHash
set_option linter.unusedVariables false
set_option linter.unusedSimpArgs false
namespace Go.Proofs.Ytafjcdpkanigaaa

def fewT (t : Table) : Table := ⟨(t.Buckets.take 20).map (·.take 8), t.Slots, t.Age⟩
theorem few_eq (t : Table) : law08_few 100 t = some (fewT t) := by
  unfold law08_few
  rw [show (20 : Int) = ((20 : Nat) : Int) from rfl, slc_min, Option.bind_some]
  generalize hl : t.Buckets.take 20 = l
  have hl20 : l.length ≤ 20 := by rw [← hl, List.length_take]; omega
  have key := loop_ind (z := (fun _ _ => none : Int → List (List Entry) → Option Table)) (s := law08_few_s2 100 t l) (fun q f => ∀ (i : Nat) (ii : Int) acc, ii = i → i ≤ l.length → l.length - i < q → acc = (l.take i).map (·.take 8) → f ii acc = some ⟨l.map (·.take 8), t.Slots, t.Age⟩)
    (fun _ _ _ _ _ h => by omega) (fun q f ih i ii acc hii hi hq hacc => by
      subst hii; subst hacc
      unfold law08_few_s2
      by_cases hlt : i < l.length
      · rw [decide_eq_true (by omega), cond_true, idx_lt hlt, Option.bind_some, show (8 : Int) = ((8 : Nat) : Int) from rfl, slc_min, Option.bind_some, push_lt (by simp; omega), Option.bind_some]
        refine ih (i + 1) _ _ (by rw [wr_id (by omega) (by omega)]; omega) (by omega) (by omega) ?_
        rw [List.take_succ_eq_append_getElem hlt, List.map_append]; rfl
      · rw [decide_eq_false (by omega), cond_false, List.take_of_length_le (by omega)]
        rfl) 100
  rw [key 0 0 [] rfl (by omega) (by omega) rfl]
  unfold fewT; rw [hl]

def inB (n lo hi : Int) : Bool := decide (lo ≤ n ∧ n ≤ hi)
theorem in_eq (k : Nat) (n lo hi : Int) : fdb_in k n lo hi = some (inB n lo hi) := by
  unfold fdb_in inB
  congr 1
  rw [Bool.eq_iff_iff]; simp
def sizesB (n s a : Int) : Bool := sizeB n && (inB s 1 4 && inB a 1 1048576)
theorem sizeB_nat {n : Int} (h : sizeB n = true) : ∃ m : Nat, n = m ∧ 0 < m ∧ m ≤ 16 := by
  have := of_decide_eq_true h
  exact ⟨n.toNat, by omega, by omega, by omega⟩
theorem sizes_eq (n s a : Int) : fdb_sizes 100 n s a = some (sizesB n s a) := by
  unfold fdb_sizes sizesB
  cases hn : sizeB n with
  | true =>
    obtain ⟨m, rfl, _, _⟩ := sizeB_nat hn
    rw [hashBucket (by omega) hn, Option.bind_some, show ((((bkt 0 m : Nat) : Int), (0 : Int)).2 == 0) = true from rfl, cond_true, in_eq, Option.bind_some]
    cases inB s 1 4 with
    | true => rw [cond_true, in_eq]; rfl
    | false => rfl
  | false => rw [hashBucket_bad hn]; rfl
theorem refSizes (n s a : Int) : ref08_Sizes 100 n s a = some (sizesB n s a) := by
  unfold ref08_Sizes sizesB
  rw [refNumber, Option.bind_some]
  congr 1
  unfold inB
  rw [Bool.eq_iff_iff]; simp [and_assoc]

/-! ### which tables may be -/
noncomputable def entryB (e : Entry) (b n : Nat) : Bool := macB e.Mac && (inB e.Port 0 7 && (inB e.Seen 0 1099511627776 && ((!e.Static || e.Seen == 0) && bkt e.Mac n == b)))
noncomputable def goodL (b n : Nat) : List Int → List Entry → Bool
  | _, [] => true
  | prev, e :: l => entryB e b n && (!(prev.contains e.Mac) && goodL b n (prev ++ [e.Mac]) l)
noncomputable def goodBs (n : Nat) (slots : Int) : Nat → List (List Entry) → Bool
  | _, [] => true
  | b, l :: r => goodL b n [] l && (decide ((l.length : Int) ≤ slots) && goodBs n slots (b + 1) r)
noncomputable def rightB (t : Table) : Bool := sizesB t.Buckets.length t.Slots t.Age && goodBs t.Buckets.length t.Slots 0 t.Buckets

theorem mget_mset {β : Type} (m : List (Int × β)) (x y : Int) (v : β) : mget (mset m x v) y = if x = y then some v else mget m y := by
  induction m with
  | nil =>
    by_cases h : x = y
    · simp [mset, mget, h]
    · have : (x == y) = false := by simpa using h
      simp [mset, mget, h, this]
  | cons p m ih =>
    unfold mset
    by_cases h1 : p.1 = x
    · have : (p.1 == x) = true := by simpa using h1
      rw [this, cond_true]
      by_cases h : x = y
      · simp [mget, h]
      · have h2 : (x == y) = false := by simpa using h
        have h3 : (p.1 == y) = false := by rw [h1]; exact h2
        simp [mget, h, h2, h3]
    · have : (p.1 == x) = false := by simpa using h1
      rw [this, cond_false]
      by_cases h3 : p.1 = y
      · have h4 : (p.1 == y) = true := by simpa using h3
        have h5 : x ≠ y := fun h => h1 (h3.trans h.symm)
        simp [mget, h4, h5]
      · have h4 : (p.1 == y) = false := by simpa using h3
        simp [mget, h4, ih]
theorem xorB_true (b : Bool) : xorB true b = !b := rfl
theorem entry_impl (k : Nat) (e : Entry) (b n : Nat) (hn : sizeB n = true) {ρ : Type} (X Y : Option ρ) (F : Option ρ) :
    ((fdb_isMac 100 e.Mac).bind fun x48 => bif !x48 then F else ((fdb_isPort 100 e.Port).bind fun x54 => bif !x54 then F else ((fdb_isTime 100 e.Seen).bind fun x60 => bif !x60 then F else (bif e.Static then (bif xorB true ((e.Mac == e.Mac) && ((e.Port == e.Port) && ((e.Seen == 0) && ((e.Static == true) && true)))) then F else ((hash_Bucket 100 e.Mac (n : Int)).bind fun x66 => bif x66.1 != (b : Int) then F else X)) else ((hash_Bucket 100 e.Mac (n : Int)).bind fun x76 => bif x76.1 != (b : Int) then F else X))))) = bif entryB e b n then X else F := by
  unfold entryB
  rw [isMac, Option.bind_some]
  cases hm : macB e.Mac with
  | false => rfl
  | true =>
    rw [Bool.not_true, cond_false, show fdb_isPort 100 e.Port = some (inB e.Port 0 7) by unfold fdb_isPort; rw [in_eq]; rfl, Option.bind_some]
    cases hp : inB e.Port 0 7 with
    | false => rfl
    | true =>
      rw [Bool.not_true, cond_false, show fdb_isTime 100 e.Seen = some (inB e.Seen 0 1099511627776) by unfold fdb_isTime; rw [in_eq]; rfl, Option.bind_some]
      cases ht : inB e.Seen 0 1099511627776 with
      | false => rfl
      | true =>
        rw [Bool.not_true, cond_false, hashBucket (macB_range hm) hn, Option.bind_some]
        have hb : (((((bkt e.Mac n : Nat) : Int), (0 : Int)).1) != (b : Int)) = !(bkt e.Mac n == b) := by
          rw [Bool.eq_iff_iff]; simp; omega
        rw [hb]
        cases hs : e.Static with
        | false => cases (bkt e.Mac n == b) <;> rfl
        | true =>
          rw [cond_true, xorB_true]
          cases h0 : e.Seen == 0 with
          | false => simp
          | true => cases (bkt e.Mac n == b) <;> simp
theorem entry_ref (e : Entry) (b n : Nat) (hn : 0 < n) : ref08_entry 100 e b n = some (entryB e b n) := by
  unfold ref08_entry entryB
  rw [refMac, Option.bind_some]
  cases hm : macB e.Mac with
  | false => rfl
  | true =>
    rw [cond_true, show ref08_Port 100 e.Port = some (inB e.Port 0 7) by unfold ref08_Port inB; congr 1; rw [Bool.eq_iff_iff]; simp, Option.bind_some]
    cases hp : inB e.Port 0 7 with
    | false => rfl
    | true =>
      rw [cond_true, show ref08_Time 100 e.Seen = some (inB e.Seen 0 1099511627776) by unfold ref08_Time inB; congr 1; rw [Bool.eq_iff_iff]; simp, Option.bind_some]
      cases ht : inB e.Seen 0 1099511627776 with
      | false => rfl
      | true =>
        rw [cond_true, refBucket (macB_range hm) hn, Option.bind_some]
        have hb : (((bkt e.Mac n : Nat) : Int) == (b : Int)) = (bkt e.Mac n == b) := by
          rw [Bool.eq_iff_iff, beq_iff_eq, beq_iff_eq]; omega
        rw [hb]
        cases hs : e.Static with
        | false => rfl
        | true =>
          rw [Bool.not_true, cond_false]
          cases h0 : e.Seen == 0 with
          | false => simp
          | true => simp
/-- A table of the law's: of few buckets, and few entries. -/
def Small (t : Table) : Prop := t.Buckets.length ≤ 20 ∧ ∀ l ∈ t.Buckets, l.length ≤ 8
theorem fewT_small (t : Table) : Small (fewT t) := by
  refine ⟨by simp [fewT]; omega, fun l hl => ?_⟩
  simp only [fewT, List.mem_map] at hl
  obtain ⟨l', _, rfl⟩ := hl
  simp; omega
theorem inner_impl (t : Table) (b n : Nat) (hn : sizeB n = true) (hnt : t.Buckets.length = n) (l : List Entry) (hl : l.length ≤ 8) (rec : Int → Option Bool) : loopN (fun _ _ => none) (fdb_Right_s3 100 t b rec l) 100 0 [] = bif goodL b n [] l then (bif decide ((l.length : Int) > t.Slots) then some false else rec (wr ((b : Int) + 1))) else some false := by
  have key := loop_ind (z := (fun _ _ => none : Int → List (Int × Int) → Option Bool)) (s := fdb_Right_s3 100 t b rec l) (fun q f => ∀ (i : Nat) (ii : Int) (m : List (Int × Int)), ii = i → i ≤ l.length → l.length - i < q → (∀ x, (mget m x).getD 0 = if x ∈ (l.take i).map (·.Mac) then 1 else 0) → f ii m = bif goodL b n ((l.take i).map (·.Mac)) (l.drop i) then (bif decide ((l.length : Int) > t.Slots) then some false else rec (wr ((b : Int) + 1))) else some false)
    (fun _ _ _ _ _ h => by omega) (fun q f ih i ii m hii hi hq hm => by
      subst hii
      unfold fdb_Right_s3
      by_cases hlt : i < l.length
      · rw [decide_eq_true (by omega), cond_true, idx_lt hlt, Option.bind_some, hnt, entry_impl 100 l[i] b n hn _ (some true) (some false)]
        have hdrop : l.drop i = l[i] :: l.drop (i + 1) := (List.getElem_cons_drop hlt).symm
        rw [hdrop, goodL]
        cases he : entryB l[i] b n with
        | false => rfl
        | true =>
          rw [cond_true, Bool.true_and]
          rw [mget_mset, if_pos rfl, Option.getD_some, hm]
          by_cases hin : l[i].Mac ∈ (l.take i).map (·.Mac)
          · have hc : ((l.take i).map (·.Mac)).contains l[i].Mac = true := by simpa using hin
            rw [if_pos hin, hc]
            rfl
          · have hc : ((l.take i).map (·.Mac)).contains l[i].Mac = false := by simpa using hin
            rw [if_neg hin, hc, show decide (wr (0 + 1) > 1) = false from by decide, cond_false, Bool.not_false, Bool.true_and]
            have htk : (l.take (i + 1)).map (·.Mac) = (l.take i).map (·.Mac) ++ [l[i].Mac] := by rw [List.take_succ_eq_append_getElem hlt, List.map_append]; rfl
            rw [← htk]
            refine ih (i + 1) _ _ (by rw [wr_id (by omega) (by omega)]; omega) (by omega) (by omega) (fun x => ?_)
            rw [mget_mset, htk]
            by_cases hx : l[i].Mac = x
            · rw [if_pos hx, if_pos (by simp [hx])]; decide
            · rw [if_neg hx, hm]
              by_cases hx2 : x ∈ (l.take i).map (·.Mac)
              · rw [if_pos hx2, if_pos (List.mem_append_left _ hx2)]
              · rw [if_neg hx2, if_neg (fun h => by
                  rcases List.mem_append.1 h with h | h
                  · exact hx2 h
                  · exact hx (List.mem_singleton.1 h).symm)]
      · have hd : l.drop i = [] := List.drop_eq_nil_of_le (by omega)
        rw [decide_eq_false (by omega), cond_false, hd, goodL]
        rfl) 100
  exact key 0 0 [] rfl (by omega) (by omega) (fun x => rfl)
theorem outer_impl (t : Table) (ht : Small t) (n : Nat) (hn : sizeB n = true) (hnt : t.Buckets.length = n) : loopN (fun _ => none) (fdb_Right_s4 100 t) 100 0 = some (goodBs n t.Slots 0 t.Buckets) := by
  have key := loop_ind (z := (fun _ => none : Int → Option Bool)) (s := fdb_Right_s4 100 t) (fun q f => ∀ (i : Nat) (ii : Int), ii = i → i ≤ n → n - i < q → f ii = some (goodBs n t.Slots i (t.Buckets.drop i)))
    (fun _ _ _ _ h => by omega) (fun q f ih i ii hii hi hq => by
      subst hii
      unfold fdb_Right_s4
      have h20 := ht.1
      by_cases hlt : i < t.Buckets.length
      · have hdrop : t.Buckets.drop i = t.Buckets[i] :: t.Buckets.drop (i + 1) := (List.getElem_cons_drop hlt).symm
        rw [decide_eq_true (by omega), cond_true, idx_lt hlt, Option.bind_some, inner_impl t i n hn hnt _ (ht.2 _ (List.getElem_mem hlt)), hdrop, goodBs]
        cases hg : goodL i n [] t.Buckets[i] with
        | false => rfl
        | true =>
          rw [cond_true, Bool.true_and]
          by_cases hs : ((t.Buckets[i].length : Int) ≤ t.Slots)
          · rw [decide_eq_false (by omega), cond_false, decide_eq_true hs, Bool.true_and]
            exact ih (i + 1) _ (by rw [wr_id (by omega) (by omega)]; omega) (by omega) (by omega)
          · rw [decide_eq_true (by omega), cond_true, decide_eq_false hs]; rfl
      · rw [decide_eq_false (by omega), cond_false, List.drop_eq_nil_of_le (by omega), goodBs]; rfl) 100
  exact key 0 0 rfl (by omega) (by have := ht.1; omega)
theorem right_impl (t : Table) (ht : Small t) : fdb_Right 100 t = some (rightB t) := by
  unfold fdb_Right rightB
  rw [sizes_eq, Option.bind_some]
  cases hs : sizesB t.Buckets.length t.Slots t.Age with
  | false => rfl
  | true =>
    rw [Bool.not_true, cond_false, Bool.true_and]
    refine outer_impl t ht _ ?_ rfl
    unfold sizesB at hs
    simp only [Bool.and_eq_true] at hs
    exact hs.1
theorem refPlace (l : List Entry) (hl : l.length ≤ 8) (a : Int) : ref08_Place 100 l a = some (findI (fun e => e.Mac == a) l) :=
  indexLoop l (fun e => some (e.Mac == a)) (fun e => e.Mac == a) (fun _ _ => rfl) (by omega) _ rfl 100 (by omega)
theorem findI_neg {α : Type} {p : α → Bool} {l : List α} : decide (findI p l ≥ 0) = l.any p := by
  rcases findI_spec (p := p) (xs := l) with ⟨h1, h2⟩ | ⟨i, hi, h1, h2, _⟩
  · rw [h1]
    have : l.any p = false := by rw [List.any_eq_false]; intro x hx; simp [h2 x hx]
    rw [this]; rfl
  · rw [h1]
    have : l.any p = true := List.any_eq_true.2 ⟨_, List.getElem_mem hi, h2⟩
    rw [this]; simp
theorem inner_ref (t : Table) (b n : Nat) (hn : 0 < n) (hnt : t.Buckets.length = n) (l : List Entry) (hl : l.length ≤ 8) (rec : Int → Option Bool) : loopN (fun _ => none) (ref08_Right_s3 100 t b rec l) 100 0 = bif goodL b n [] l then rec (wr ((b : Int) + 1)) else some false := by
  have key := loop_ind (z := (fun _ => none : Int → Option Bool)) (s := ref08_Right_s3 100 t b rec l) (fun q f => ∀ (i : Nat) (ii : Int), ii = i → i ≤ l.length → l.length - i < q → f ii = bif goodL b n ((l.take i).map (·.Mac)) (l.drop i) then rec (wr ((b : Int) + 1)) else some false)
    (fun _ _ _ _ h => by omega) (fun q f ih i ii hii hi hq => by
      subst hii
      unfold ref08_Right_s3
      by_cases hlt : i < l.length
      · have hdrop : l.drop i = l[i] :: l.drop (i + 1) := (List.getElem_cons_drop hlt).symm
        rw [decide_eq_true (by omega), cond_true, idx_lt hlt, Option.bind_some, hnt, entry_ref _ _ _ hn, Option.bind_some, hdrop, goodL]
        cases he : entryB l[i] b n with
        | false => rfl
        | true =>
          rw [Bool.not_true, cond_false, Bool.true_and, slc_to (by omega), Option.bind_some, refPlace _ (by simp; omega), Option.bind_some, findI_neg]
          have hany : (l.take i).any (fun e => e.Mac == l[i].Mac) = ((l.take i).map (·.Mac)).contains l[i].Mac := by
            rw [Bool.eq_iff_iff, List.any_eq_true, List.contains_iff_mem, List.mem_map]
            exact ⟨fun ⟨x, h1, h2⟩ => ⟨x, h1, beq_iff_eq.1 h2⟩, fun ⟨x, h1, h2⟩ => ⟨x, h1, beq_iff_eq.2 h2⟩⟩
          rw [hany]
          cases ((l.take i).map (·.Mac)).contains l[i].Mac with
          | true => rfl
          | false =>
            rw [cond_false, Bool.not_false, Bool.true_and]
            have htk : (l.take (i + 1)).map (·.Mac) = (l.take i).map (·.Mac) ++ [l[i].Mac] := by rw [List.take_succ_eq_append_getElem hlt, List.map_append]; rfl
            rw [← htk]
            exact ih (i + 1) _ (by rw [wr_id (by omega) (by omega)]; omega) (by omega) (by omega)
      · have hd : l.drop i = [] := List.drop_eq_nil_of_le (by omega)
        rw [decide_eq_false (by omega), cond_false, hd, goodL]
        rfl) 100
  exact key 0 0 rfl (by omega) (by omega)
theorem right_ref (t : Table) (ht : Small t) : ref08_Right 100 t = some (rightB t) := by
  unfold ref08_Right rightB
  rw [refSizes, Option.bind_some]
  cases hs : sizesB t.Buckets.length t.Slots t.Age with
  | false => rfl
  | true =>
    rw [Bool.not_true, cond_false, Bool.true_and]
    have hsz : sizeB t.Buckets.length = true := by
      unfold sizesB at hs
      simp only [Bool.and_eq_true] at hs
      exact hs.1
    have hn : 0 < t.Buckets.length := by
      obtain ⟨m, h1, h2, _⟩ := sizeB_nat hsz; omega
    have key := loop_ind (z := (fun _ => none : Int → Option Bool)) (s := ref08_Right_s4 100 t) (fun q f => ∀ (i : Nat) (ii : Int), ii = i → i ≤ t.Buckets.length → t.Buckets.length - i < q → f ii = some (goodBs t.Buckets.length t.Slots i (t.Buckets.drop i)))
      (fun _ _ _ _ h => by omega) (fun q f ih i ii hii hi hq => by
        subst hii
        unfold ref08_Right_s4
        have h20 := ht.1
        by_cases hlt : i < t.Buckets.length
        · have hdrop : t.Buckets.drop i = t.Buckets[i] :: t.Buckets.drop (i + 1) := (List.getElem_cons_drop hlt).symm
          rw [decide_eq_true (by omega), cond_true, idx_lt hlt, Option.bind_some, hdrop, goodBs]
          by_cases hs : ((t.Buckets[i].length : Int) ≤ t.Slots)
          · rw [decide_eq_false (by omega), cond_false, decide_eq_true hs, Bool.true_and, inner_ref t i _ hn rfl _ (ht.2 _ (List.getElem_mem hlt))]
            cases goodL i t.Buckets.length [] t.Buckets[i] with
            | false => rfl
            | true =>
              rw [cond_true, Bool.true_and]
              exact ih (i + 1) _ (by rw [wr_id (by omega) (by omega)]; omega) (by omega) (by omega)
          · rw [decide_eq_true (by omega), cond_true, decide_eq_false hs]
            simp
        · rw [decide_eq_false (by omega), cond_false, List.drop_eq_nil_of_le (by omega), goodBs]; rfl) 100
    exact key 0 0 rfl (by omega) (by have := ht.1; omega)
end Go.Proofs.Ytafjcdpkanigaaa
