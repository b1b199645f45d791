/- Plain facts about the operations that Go's functions are told with: numbers that fit, rows, loops. No condition. -/
import Derived.Test.YtdiclbejalelfaaFwQ
set_option linter.unusedVariables false
set_option linter.unusedSimpArgs false
namespace Go.Proofs.Ytdiclbejalelfaa

theorem wr_id {x : Int} (h : -9223372036854775808 ≤ x) (h' : x ≤ 9223372036854775807) : wr x = x := by
  unfold wr IntKind.wrap
  simp [IntKind.bits, IntKind.signed]
  omega
theorem wr_bd (x : Int) : -9223372036854775808 ≤ wr x ∧ wr x ≤ 9223372036854775807 := by
  unfold wr IntKind.wrap
  simp [IntKind.bits, IntKind.signed]
  omega
theorem u32_mod (x : Int) : IntKind.u32.wrap x = x % 4294967296 := by
  unfold IntKind.wrap
  simp [IntKind.bits, IntKind.signed]
theorem u8_mod (x : Int) : IntKind.u8.wrap x = x % 256 := by
  unfold IntKind.wrap
  simp [IntKind.bits, IntKind.signed]
theorem loop_ind {F : Type} {z : F} {s : F → F} (P : Nat → F → Prop) (h0 : P 0 z) (hs : ∀ n f, P n f → P (n + 1) (s f)) : ∀ n, P n (loopN z s n)
  | 0 => h0
  | n + 1 => hs n _ (loop_ind P h0 hs n)

section
variable {α β : Type} {xs ys zs : List α} {x y z : α}
theorem idx_nat (i : Nat) : idx xs (i : Int) = xs[i]? := by simp [idx]
theorem idx_lt {i : Nat} (h : i < xs.length) : idx xs (i : Int) = some xs[i] := by rw [idx_nat, List.getElem?_eq_getElem h]
theorem idx_int {i : Int} (h : 0 ≤ i) (h' : i < xs.length) : idx xs i = some (xs[i.toNat]'(by omega)) := by
  obtain ⟨n, rfl⟩ := Int.eq_ofNat_of_zero_le h
  exact idx_lt (by omega)
theorem slc_to {n : Nat} (h : n ≤ xs.length) : slc xs 0 (n : Int) = some (xs.take n) := by
  unfold slc
  rw [if_pos ⟨Int.le_refl _, by omega, by omega⟩]
  simp
theorem slc_from {n : Nat} (h : n ≤ xs.length) : slc xs (n : Int) (xs.length : Int) = some (xs.drop n) := by
  unfold slc
  rw [if_pos ⟨by omega, by omega, Int.le_refl _⟩]
  simp
theorem slc_min (n : Nat) : slc xs 0 (if (n : Int) < (xs.length : Int) then (n : Int) else (xs.length : Int)) = some (xs.take n) := by
  split
  · exact slc_to (by omega)
  · rw [slc_to (Nat.le_refl _), List.take_of_length_le (Nat.le_refl _), List.take_of_length_le (by omega)]
theorem push_lt (h : xs.length < 4294967296) : push xs y = some (xs ++ [y]) := if_pos h
theorem cat_le (h : xs.length + ys.length ≤ 4294967296) : cat xs ys = some (xs ++ ys) := if_pos h
theorem mk_nat {n : Nat} (h : n ≤ 4294967296) : mk (n : Int) z = some (List.replicate n z) := by
  unfold mk
  rw [if_pos ⟨by omega, by omega⟩]; simp
theorem upd_nat {i : Nat} (h : i < xs.length) : upd xs (i : Int) y = some (xs.set i y) := by
  unfold upd
  rw [if_pos ⟨by omega, by omega⟩]; simp
theorem cpy_self (h : ys.length = xs.length) : cpy xs ys = ys := by
  unfold cpy
  rw [List.take_of_length_le (by omega), List.drop_eq_nil_of_le (by omega), List.append_nil]
end
/-- The first place of which something holds, or -1. -/
def findI {α : Type} (p : α → Bool) : List α → Int
  | [] => -1
  | x :: xs => bif p x then 0 else bif findI p xs == -1 then -1 else findI p xs + 1
theorem findI_cons {α : Type} {p : α → Bool} {x : α} {xs : List α} : findI p (x :: xs) = bif p x then 0 else bif findI p xs == -1 then -1 else findI p xs + 1 := rfl
theorem findI_spec {α : Type} {p : α → Bool} {xs : List α} : (findI p xs = -1 ∧ ∀ x ∈ xs, p x = false) ∨ ∃ i, ∃ h : i < xs.length, findI p xs = i ∧ p xs[i] = true ∧ ∀ j (hj : j < i), p (xs[j]'(by omega)) = false := by
  induction xs with
  | nil => exact .inl ⟨rfl, by simp⟩
  | cons x xs ih =>
    cases hx : p x with
    | true => exact .inr ⟨0, by simp, by simp [findI_cons, hx], by simpa using hx, fun j hj => by omega⟩
    | false =>
      rcases ih with ⟨h1, h2⟩ | ⟨i, h, h1, h2, h3⟩
      · refine .inl ⟨by simp [findI_cons, hx, h1], fun y hy => ?_⟩
        rcases List.mem_cons.1 hy with rfl | hy
        · exact hx
        · exact h2 y hy
      · have hne : ((i : Int) == -1) = false := by cases i <;> rfl
        refine .inr ⟨i + 1, by simpa using h, by rw [findI_cons, hx, h1, hne]; rfl, by simpa using h2, fun j hj => ?_⟩
        cases j with
        | zero => simpa using hx
        | succ j => simpa using h3 j (by omega)
/-- slices.IndexFunc's loop. -/
theorem indexLoop {α : Type} (xs : List α) (p : α → Option Bool) (q : α → Bool) (hp : ∀ x ∈ xs, p x = some (q x)) (hl : xs.length < 4294967296) (s : (Int → Option Int) → Int → Option Int)
    (hs : s = fun rec i => bif decide (i < (xs.length : Int)) then ((idx xs i).bind fun y => (p y).bind fun b => bif b then (some i) else (rec (wr (i + 1)))) else some (-1)) (k : Nat) (hk : xs.length < k) : loopN (fun _ => none) s k 0 = some (findI q xs) := by
  have key := loop_ind (z := (fun _ => none : Int → Option Int)) (s := s) (fun n f => ∀ i : Nat, i ≤ xs.length → xs.length - i < n → f i = some (bif (findI q (xs.drop i)) == -1 then -1 else findI q (xs.drop i) + i)) (fun i _ h => by omega) (fun n f ih i hi hn => by
    subst hs
    simp only
    by_cases hlt : i < xs.length
    · have hd : decide ((i : Int) < (xs.length : Int)) = true := by simp; omega
      rw [hd, idx_lt hlt]
      simp only [cond_true, Option.bind_some, hp _ (List.getElem_mem hlt)]
      have hdrop : xs.drop i = xs[i] :: xs.drop (i + 1) := (List.getElem_cons_drop hlt).symm
      rw [hdrop, findI_cons]
      cases hq : q xs[i] with
      | true => simp
      | false =>
        rw [wr_id (by omega) (by omega)]
        simp only [cond_false]
        rw [show ((i : Int) + 1) = ((i + 1 : Nat) : Int) by omega, ih (i + 1) (by omega) (by omega)]
        rcases findI_spec (p := q) (xs := xs.drop (i + 1)) with ⟨h, _⟩ | ⟨j, _, h, _⟩
        · simp [h]
        · rw [h]
          have h1 : ((j : Int) == -1) = false := by cases j <;> rfl
          have h2 : ((j : Int) + 1 == -1) = false := by simp; omega
          simp only [h1, cond_false, h2]
          congr 1; omega
    · have hd : decide ((i : Int) < (xs.length : Int)) = false := by simp; omega
      have hn : xs.drop i = [] := List.drop_eq_nil_of_le (by omega)
      rw [hd, hn]; rfl) k
  have := key 0 (Nat.zero_le _) (by omega)
  rw [List.drop_zero] at this
  rw [show (0 : Int) = ((0 : Nat) : Int) from rfl, this]
  rcases findI_spec (p := q) (xs := xs) with ⟨h, _⟩ | ⟨j, _, h, _⟩
  · simp [h]
  · rw [h]
    have h1 : ((j : Int) == -1) = false := by cases j <;> rfl
    simp [h1]
/-- slices.DeleteFunc's loop: what is to stay moves ahead. -/
theorem deleteLoop {α ρ : Type} (p : α → Option Bool) (q : α → Bool) (K : Int → List α → Option ρ) (s : (Int → Int → List α → Option ρ) → Int → Int → List α → Option ρ)
    (hs : s = fun rec i j l => bif decide (j < ((l.length : Nat) : Int)) then ((idx l j).bind fun y => (p y).bind fun b => bif !b then ((idx l i).bind fun _ => (upd l i y).bind fun l' => rec (wr (i + 1)) (wr (j + 1)) l') else rec i (wr (j + 1)) l) else K i l)
    (xs : List α) (hp : ∀ x ∈ xs, p x = some (q x)) (hl : xs.length < 4294967296) : ∀ n i j (l : List α), j ≤ xs.length → i ≤ j → l.length = xs.length → l.take i = (xs.take j).filter (fun x => !q x) → l.drop j = xs.drop j → xs.length - j < n →
      ∃ l', l'.length = xs.length ∧ l'.take (xs.filter fun x => !q x).length = (xs.filter fun x => !q x) ∧ loopN (fun _ _ _ => none) s n i j l = K ((xs.filter fun x => !q x).length : Nat) l' := by
  intro n
  induction n with
  | zero => intro i j l _ _ _ _ _ h; omega
  | succ n ih =>
    intro i j l hj hij hll ht hd hn
    rw [loopN]
    generalize hrec : loopN (fun _ _ _ => none) s n = rec at ih
    subst hs
    simp only
    have hjc : decide ((j : Int) < ((l.length : Nat) : Int)) = decide (j < xs.length) := by rw [hll]; simp
    rw [hjc]
    by_cases hlt : j < xs.length
    · have hlj : l[j]'(by omega) = xs[j] := by
        have h1 : (l.drop j)[0]? = (xs.drop j)[0]? := by rw [hd]
        rw [List.getElem?_drop, List.getElem?_drop, Nat.add_zero, List.getElem?_eq_getElem (by omega), List.getElem?_eq_getElem hlt] at h1
        exact Option.some.inj h1
      have htk : xs.take (j + 1) = xs.take j ++ [xs[j]] := List.take_succ_eq_append_getElem hlt
      have hdr : ∀ m : List α, m.drop j = l.drop j → m.drop (j + 1) = xs.drop (j + 1) := by
        intro m hm
        have : (m.drop j).drop 1 = (xs.drop j).drop 1 := by rw [hm, hd]
        simpa [List.drop_drop, Nat.add_comm] using this
      rw [decide_eq_true hlt, idx_lt (by omega : j < l.length), hlj]
      simp only [cond_true, Option.bind_some, hp _ (List.getElem_mem hlt)]
      have e1 : wr ((j : Int) + 1) = ((j + 1 : Nat) : Int) := by rw [wr_id (by omega) (by omega)]; omega
      have e2 : wr ((i : Int) + 1) = ((i + 1 : Nat) : Int) := by rw [wr_id (by omega) (by omega)]; omega
      rw [e1, e2]
      cases hq : q xs[j] with
      | true =>
        simp only [Bool.not_true, cond_false]
        exact ih i (j + 1) l (by omega) (by omega) hll (by rw [htk, List.filter_append, ht]; simp [hq]) (hdr l rfl) (by omega)
      | false =>
        simp only [Bool.not_false, cond_true]
        rw [idx_lt (by omega : i < l.length), upd_nat (by omega : i < l.length)]
        simp only [Option.bind_some]
        refine ih (i + 1) (j + 1) (l.set i xs[j]) (by omega) (by omega) (by simpa using hll) ?_ ?_ (by omega)
        · rw [htk, List.filter_append, ← ht, List.take_succ_eq_append_getElem (by simp; omega)]
          simp [hq, List.take_set_of_le]
        · have : (l.set i xs[j]).drop (j + 1) = l.drop (j + 1) := by
            rw [List.drop_set_of_lt (by omega)]
          rw [this]; exact hdr l rfl
    · have hje : j = xs.length := by omega
      subst hje
      rw [decide_eq_false hlt]
      simp only [cond_false]
      have hfe : xs.take xs.length = xs := List.take_length
      rw [hfe] at ht
      have hil : i = (xs.filter fun x => !q x).length := by rw [← ht, List.length_take]; omega
      exact ⟨l, hll, by rw [← hil]; exact ht, by rw [← hil]⟩
end Go.Proofs.Ytdiclbejalelfaa
