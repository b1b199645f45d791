/- Plans of bridges in plain terms: which may be, and what is on a segment. No condition. -/
import Derived.Test.YtdiclbejalelfaaFwS
import Derived.Test.YtdiclbejalelfaaTD
set_option linter.unusedVariables false
set_option linter.unusedSimpArgs false
namespace Go.Proofs.Ytdiclbejalelfaa

theorem mget_set {β : Type} (m : List (Int × β)) (x y : Int) (v : β) : mget (mset m x v) y = if x = y then some v else mget m y := by
  induction m with
  | nil =>
    by_cases h : x = y
    · simp [mset, mget, h]
    · have : (x == y) = false := by simpa using h
      simp [mset, mget, h, this]
  | cons p m ih =>
    unfold mset
    by_cases h1 : p.1 = x
    · have : (p.1 == x) = true := by simpa using h1
      rw [this, cond_true]
      by_cases h : x = y
      · simp [mget, h]
      · have h2 : (x == y) = false := by simpa using h
        have h3 : (p.1 == y) = false := by rw [h1]; exact h2
        simp [mget, h, h2, h3]
    · have : (p.1 == x) = false := by simpa using h1
      rw [this, cond_false]
      by_cases h3 : p.1 = y
      · have h4 : (p.1 == y) = true := by simpa using h3
        have h5 : x ≠ y := fun h => h1 (h3.trans h.symm)
        simp [mget, h4, h5]
      · have h4 : (p.1 == y) = false := by simpa using h3
        simp [mget, h4, ih]

theorem findI_any {α : Type} (q : α → Bool) (xs : List α) : decide (findI q xs ≥ 0) = xs.any q := by
  rcases findI_spec (p := q) (xs := xs) with ⟨h, h2⟩ | ⟨i, h, h1, h2, h3⟩
  · rw [h, decide_eq_false (by omega)]
    exact (List.any_eq_false.2 fun x hx => by rw [h2 x hx]; simp).symm
  · rw [h1, decide_eq_true (by omega)]
    exact (List.any_eq_true.2 ⟨_, List.getElem_mem h, h2⟩).symm

/-! ### few -/
def fewP (p : Plan) : Plan := ⟨p.ID, p.Ports.take 10⟩
def fewL (l : Lan) : Lan := ⟨l.Segs, (l.Plans.take 8).map fewP, l.Hosts.take 12⟩
structure Small (l : Lan) : Prop where
  plans : l.Plans.length ≤ 8
  ports : ∀ p ∈ l.Plans, p.Ports.length ≤ 10
  hosts : l.Hosts.length ≤ 12
theorem fewL_small (l : Lan) : Small (fewL l) := by
  refine ⟨by simp [fewL]; omega, fun p hp => ?_, by simp [fewL]; omega⟩
  simp only [fewL, List.mem_map] at hp
  obtain ⟨q, _, rfl⟩ := hp
  simp [fewP]; omega
theorem few_eq (k : Nat) (hk : 20 ≤ k) (l : Lan) : law16_few k l = some (fewL l) := by
  unfold law16_few
  rw [show slc l.Plans 0 (if (8 : Int) < (l.Plans.length : Int) then 8 else (l.Plans.length : Int)) = some (l.Plans.take 8) from slc_min 8, Option.bind_some]
  generalize hP : l.Plans.take 8 = P
  have hP8 : P.length ≤ 8 := by rw [← hP]; simp; omega
  have key := loop_ind (z := (fun _ _ => none : Int → List Plan → Option Lan)) (s := law16_few_s2 k l P) (fun q f => ∀ (i : Nat) (acc : List Plan), i ≤ P.length → P.length - i < q → acc = (P.take i).map fewP → f i acc = some ⟨l.Segs, P.map fewP, l.Hosts.take 12⟩)
    (fun i acc _ h => by omega) (fun q f ih i acc hi hq ha => by
      unfold law16_few_s2
      by_cases hlt : i < P.length
      · rw [decide_eq_true (by omega), cond_true, idx_lt hlt, Option.bind_some]
        rw [show slc P[i].Ports 0 (if (10 : Int) < (P[i].Ports.length : Int) then 10 else (P[i].Ports.length : Int)) = some (P[i].Ports.take 10) from slc_min 10, Option.bind_some, push_lt (by rw [ha]; simp; omega), Option.bind_some]
        rw [show wr ((i : Int) + 1) = ((i + 1 : Nat) : Int) by rw [wr_id (by omega) (by omega)]; omega]
        refine ih (i + 1) _ (by omega) (by omega) ?_
        rw [ha, List.take_succ_eq_append_getElem hlt, List.map_append]; rfl
      · rw [decide_eq_false (by omega), cond_false]
        unfold law16_few_j1
        rw [show slc l.Hosts 0 (if (12 : Int) < (l.Hosts.length : Int) then 12 else (l.Hosts.length : Int)) = some (l.Hosts.take 12) from slc_min 12, Option.bind_some, ha, List.take_of_length_le (by omega)]) k
  have := key 0 [] (Nat.zero_le _) (by omega) rfl
  rw [show ((0 : Nat) : Int) = 0 from rfl] at this
  rw [this, ← hP]; rfl

/-! ### Right -/
def inB (n low high : Int) : Bool := (decide (n ≥ low)) && (decide (n ≤ high))
def linkB (segs : Int) (x : Link) : Bool := inB x.Seg 0 (wr (segs - 1)) && inB x.Cost 1 1000
def planB (segs : Int) (p : Plan) : Bool := inB p.ID 0 65535 && (inB (p.Ports.length : Int) 1 8 && !(p.Ports.any fun x => !linkB segs x))
/-- The class of an address. -/
def macV (a : Int) : Int × Int := bif inB a 0 281474976710655 then (bif (bandnot .i64 a 15) == 1652522221568 then (2, 0) else (band .i64 (a.fdiv (2 ^ (min 40 64))) 1, 0)) else (0, 1)
def hostB (segs : Int) (h : Host) : Bool := ((macV h.Mac).2 == 0) && (((macV h.Mac).1 == 0) && inB h.Seg 0 (wr (segs - 1)))
def plansB (segs : Int) : List Int → List Plan → Bool
  | _, [] => true
  | prev, p :: ps => !(prev.contains p.ID) && (planB segs p && plansB segs (prev ++ [p.ID]) ps)
def hostsB (segs : Int) : List Int → List Host → Bool
  | _, [] => true
  | prev, h :: hs => !(prev.contains h.Mac) && (hostB segs h && hostsB segs (prev ++ [h.Mac]) hs)
def rightB (l : Lan) : Bool := inB l.Segs 1 8 && (decide ((l.Plans.length : Int) ≤ 6) && (decide ((l.Hosts.length : Int) ≤ 8) && (plansB l.Segs [] l.Plans && hostsB l.Segs [] l.Hosts)))
theorem in_eq (k : Nat) (a b c : Int) : lan_in k a b c = some (inB a b c) := rfl
theorem macC_eq (k : Nat) (a : Int) : mac_Class k a = some (macV a) := by
  unfold mac_Class mac_Right macV
  rw [Option.bind_some, show ((decide (a ≥ 0)) && (decide (a ≤ 281474976710655))) = inB a 0 281474976710655 from rfl]
  cases inB a 0 281474976710655 with
  | false => rfl
  | true =>
    simp only [Bool.not_true, cond_false, cond_true]
    cases (bandnot .i64 a 15) == 1652522221568 <;> rfl
theorem isPlan_eq (k : Nat) (hk : 20 ≤ k) (p : Plan) (hp : p.Ports.length ≤ 10) (segs : Int) : lan_isPlan k p segs = some (planB segs p) := by
  unfold lan_isPlan planB
  simp only [in_eq, Option.bind_some]
  cases inB p.ID 0 65535 with
  | false => rfl
  | true =>
    cases inB (p.Ports.length : Int) 1 8 with
    | false => rfl
    | true =>
      simp only [cond_true, Bool.true_and]
      unfold slices_ContainsFunc
      have h1 : slices_IndexFunc k p.Ports (fun x10 => lan_isPlan_1 k x10 segs) = some (findI (fun x => !linkB segs x) p.Ports) :=
        indexLoop p.Ports (fun x10 => lan_isPlan_1 k x10 segs) (fun x => !linkB segs x) (fun x _ => by
          unfold lan_isPlan_1 linkB lan_isPlan_1_j1
          simp only [in_eq, Option.bind_some]
          cases inB x.Seg 0 (wr (segs - 1)) <;> rfl) (by omega) _ rfl k (by omega)
      rw [h1]
      simp only [Option.bind_some, findI_any]
      rfl
/-- How often it was seen: no more than once. -/
def Seen (m : List (Int × Int)) (xs : List Int) : Prop := ∀ x, (mget m x).getD 0 = if x ∈ xs then 1 else 0
theorem Seen.next {m : List (Int × Int)} {xs : List Int} (h : Seen m xs) {x : Int} (hx : x ∉ xs) : Seen (mset m x (wr (((mget m x).getD 0) + 1))) (xs ++ [x]) := by
  intro y
  rw [mget_set, h x, if_neg hx]
  by_cases hxy : x = y
  · rw [if_pos hxy, if_pos (by simp [hxy])]; decide
  · rw [if_neg hxy, h y]
    by_cases hy : y ∈ xs
    · rw [if_pos hy, if_pos (List.mem_append_left _ hy)]
    · rw [if_neg hy, if_neg (fun h => by
        rcases List.mem_append.1 h with h | h
        · exact hy h
        · exact hxy (List.mem_singleton.1 h).symm)]
theorem Seen.twice {m : List (Int × Int)} {xs : List Int} (h : Seen m xs) (x : Int) : decide ((((mget (mset m x (wr (((mget m x).getD 0) + 1))) x).getD 0)) > 1) = xs.contains x := by
  rw [mget_set, if_pos rfl, Option.getD_some, h x]
  by_cases hx : x ∈ xs
  · rw [if_pos hx, show xs.contains x = true by simpa using hx]; decide
  · rw [if_neg hx, show xs.contains x = false by simpa using hx]; decide
theorem hosts_eq (k : Nat) (hk : 20 ≤ k) (l : Lan) (hl : Small l) : loopN (fun _ _ => none) (lan_Right_s3 k l) k 0 [] = some (hostsB l.Segs [] l.Hosts) := by
  have h12 := hl.hosts
  have key := loop_ind (z := (fun _ _ => none : Int → List (Int × Int) → Option Bool)) (s := lan_Right_s3 k l) (fun q f => ∀ (i : Nat) (m : List (Int × Int)), i ≤ l.Hosts.length → l.Hosts.length - i < q → Seen m ((l.Hosts.take i).map (·.Mac)) → f i m = some (hostsB l.Segs ((l.Hosts.take i).map (·.Mac)) (l.Hosts.drop i)))
    (fun _ _ _ h => by omega) (fun q f ih i m hi hq hm => by
      unfold lan_Right_s3
      by_cases hlt : i < l.Hosts.length
      · rw [decide_eq_true (by omega), cond_true, idx_lt hlt, Option.bind_some, macC_eq, Option.bind_some, hm.twice]
        have hdrop : l.Hosts.drop i = l.Hosts[i] :: l.Hosts.drop (i + 1) := (List.getElem_cons_drop hlt).symm
        have htk : (l.Hosts.take (i + 1)).map (·.Mac) = (l.Hosts.take i).map (·.Mac) ++ [l.Hosts[i].Mac] := by rw [List.take_succ_eq_append_getElem hlt, List.map_append]; rfl
        rw [hdrop, hostsB]
        cases hc : ((l.Hosts.take i).map (·.Mac)).contains l.Hosts[i].Mac with
        | true => rfl
        | false =>
          have hnin : l.Hosts[i].Mac ∉ (l.Hosts.take i).map (·.Mac) := by
            intro h
            have : ((l.Hosts.take i).map (·.Mac)).contains l.Hosts[i].Mac = true := by simpa using h
            rw [hc] at this; cases this
          unfold hostB
          have hbn : ∀ z : Int, (z != 0) = !(z == 0) := fun z => rfl
          simp only [hbn, Bool.false_or, Bool.not_false, Bool.true_and]
          cases (macV l.Hosts[i].Mac).2 == 0 with
          | false => rfl
          | true =>
            cases (macV l.Hosts[i].Mac).1 == 0 with
            | false => rfl
            | true =>
              simp only [Bool.not_true, Bool.false_or, cond_false, in_eq, Option.bind_some, Bool.true_and]
              unfold lan_Right_j2
              cases inB l.Hosts[i].Seg 0 (wr (l.Segs - 1)) with
              | false => rfl
              | true =>
                simp only [Bool.not_true, cond_false, Bool.true_and]
                rw [← htk, show wr ((i : Int) + 1) = ((i + 1 : Nat) : Int) by rw [wr_id (by omega) (by omega)]; omega]
                refine ih (i + 1) _ (by omega) (by omega) ?_
                rw [htk]; exact hm.next hnin
      · rw [decide_eq_false (by omega), cond_false, List.drop_eq_nil_of_le (by omega)]
        rfl) k
  exact key 0 [] (Nat.zero_le _) (by omega) (fun x => rfl)
theorem plans_eq (k : Nat) (hk : 20 ≤ k) (l : Lan) (hl : Small l) : loopN (fun _ _ => none) (lan_Right_s6 k l) k 0 [] = some (plansB l.Segs [] l.Plans && hostsB l.Segs [] l.Hosts) := by
  have h8 := hl.plans
  have key := loop_ind (z := (fun _ _ => none : Int → List (Int × Int) → Option Bool)) (s := lan_Right_s6 k l) (fun q f => ∀ (i : Nat) (m : List (Int × Int)), i ≤ l.Plans.length → l.Plans.length - i < q → Seen m ((l.Plans.take i).map (·.ID)) → f i m = some (plansB l.Segs ((l.Plans.take i).map (·.ID)) (l.Plans.drop i) && hostsB l.Segs [] l.Hosts))
    (fun _ _ _ h => by omega) (fun q f ih i m hi hq hm => by
      unfold lan_Right_s6
      by_cases hlt : i < l.Plans.length
      · rw [decide_eq_true (by omega), cond_true, idx_lt hlt, Option.bind_some, hm.twice]
        have hdrop : l.Plans.drop i = l.Plans[i] :: l.Plans.drop (i + 1) := (List.getElem_cons_drop hlt).symm
        have htk : (l.Plans.take (i + 1)).map (·.ID) = (l.Plans.take i).map (·.ID) ++ [l.Plans[i].ID] := by rw [List.take_succ_eq_append_getElem hlt, List.map_append]; rfl
        rw [hdrop, plansB]
        cases hc : ((l.Plans.take i).map (·.ID)).contains l.Plans[i].ID with
        | true => rfl
        | false =>
          have hnin : l.Plans[i].ID ∉ (l.Plans.take i).map (·.ID) := by
            intro h
            have : ((l.Plans.take i).map (·.ID)).contains l.Plans[i].ID = true := by simpa using h
            rw [hc] at this; cases this
          rw [cond_false, isPlan_eq k hk _ (hl.ports _ (List.getElem_mem hlt)), Option.bind_some]
          unfold lan_Right_j5
          cases planB l.Segs l.Plans[i] with
          | false => rfl
          | true =>
            simp only [Bool.not_true, cond_false, Bool.not_false, Bool.true_and]
            rw [← htk, show wr ((i : Int) + 1) = ((i + 1 : Nat) : Int) by rw [wr_id (by omega) (by omega)]; omega]
            refine ih (i + 1) _ (by omega) (by omega) ?_
            rw [htk]; exact hm.next hnin
      · rw [decide_eq_false (by omega), cond_false, List.drop_eq_nil_of_le (by omega)]
        unfold lan_Right_j4
        rw [hosts_eq k hk l hl]; rfl) k
  exact key 0 [] (Nat.zero_le _) (by omega) (fun x => rfl)
theorem right_eq (k : Nat) (hk : 20 ≤ k) (l : Lan) (hl : Small l) : lan_Right k l = some (rightB l) := by
  unfold lan_Right rightB
  rw [in_eq, Option.bind_some]
  unfold lan_Right_j7
  cases inB l.Segs 1 8 with
  | false => rfl
  | true =>
    simp only [Bool.not_true, cond_false, Bool.true_and]
    by_cases h6 : (l.Plans.length : Int) ≤ 6
    · rw [decide_eq_false (by omega), decide_eq_true h6, cond_false]
      by_cases h8 : (l.Hosts.length : Int) ≤ 8
      · rw [decide_eq_false (by omega), decide_eq_true h8, cond_false, plans_eq k hk l hl]; rfl
      · rw [decide_eq_true (by omega), decide_eq_false h8]; rfl
    · rw [decide_eq_true (by omega), decide_eq_false h6]; rfl
end Go.Proofs.Ytdiclbejalelfaa
