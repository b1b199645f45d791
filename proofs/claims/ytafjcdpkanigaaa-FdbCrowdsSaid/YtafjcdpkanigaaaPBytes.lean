/- Bytes of addresses: what the program and the reference come to. No condition. -/
import Derived.Test.YtafjcdpkanigaaaPMac
set_option linter.unusedVariables false
set_option linter.unusedSimpArgs false
namespace Go.Proofs.Ytafjcdpkanigaaa

theorem foldl_push (l : List Int) (r : ByteArray) : (l.foldl (fun r n => r.push (UInt8.ofNat n.toNat)) r).data = r.data ++ (l.map fun n => UInt8.ofNat n.toNat).toArray := by
  induction l generalizing r with
  | nil => simp
  | cons x l ih => rw [List.foldl_cons, ih]; simp [ByteArray.push]
theorem strOf_data (xs : List (IK .u8)) : (strOf xs).data = (xs.map fun x => UInt8.ofNat x.n.toNat).toArray := by
  unfold strOf
  rw [foldl_push]
  simp [List.map_map, Function.comp_def]
theorem strOf_size (xs : List (IK .u8)) : (strOf xs).size = xs.length := by
  show (strOf xs).data.size = _
  rw [strOf_data]; simp
theorem strAdd_strOf (xs ys : List (IK .u8)) (h : xs.length + ys.length < 1000) : strAdd (strOf xs) (strOf ys) = some (strOf (xs ++ ys)) := by
  unfold strAdd
  rw [if_neg (by rw [strOf_size, strOf_size]; simp [IntKind.max, IntKind.signed, IntKind.bits]; omega)]
  congr 1
  apply ByteArray.ext
  rw [strOf_data, ByteArray.data_append, strOf_data, strOf_data]; simp
theorem sidx_strOf (xs : List (IK .u8)) {i : Nat} (h : i < xs.length) : sidx (strOf xs) (i : Int) = some ((xs[i].n.toNat % 256 : Nat) : Int) := by
  unfold sidx
  rw [if_pos (by omega)]
  have : (strOf xs)[(i : Int).toNat]? = (strOf xs).data[i]? := by
    simp only [Int.toNat_natCast]
    rw [getElem?_def, getElem?_def]
    rfl
  rw [this, strOf_data]
  simp [h]
theorem loop7 {F : Type} (z : F) (s : F → F) : loopN z s 100 = s (s (s (s (s (s (s (loopN z s 93))))))) := rfl
/-- The bytes of an address. -/
def bytesI (n : Nat) : List (IK .u8) := [⟨(n / 1099511627776 % 256 : Nat)⟩, ⟨(n / 4294967296 % 256 : Nat)⟩, ⟨(n / 16777216 % 256 : Nat)⟩, ⟨(n / 65536 % 256 : Nat)⟩, ⟨(n / 256 % 256 : Nat)⟩, ⟨(n % 256 : Nat)⟩]
theorem shr_nat (n m p : Nat) (hm : m ≤ 64) (hp : 2 ^ m = p) : ishr (n : Int) (m : Int) = some ((n / p : Nat) : Int) := by
  unfold ishr
  rw [if_neg (by omega)]
  simp only [Int.toNat_natCast]
  rw [Nat.min_eq_left hm, show (2 : Int) ^ m = ((2 ^ m : Nat) : Int) by simp, hp, Int.fdiv_eq_ediv_of_nonneg _ (by omega)]
  congr 1
theorem wr_nat {n : Nat} (h : n < 9223372036854775808) : wr (n : Int) = n := i64_nat h
theorem macBytes {n : Nat} (h : n < 281474976710656) : mac_Bytes 100 (n : Int) = some (strOf (bytesI n), 0) := by
  unfold mac_Bytes
  rw [macR, decide_eq_true (by omega)]
  have e5 : wr (8 * wr (5 - 0)) = ((40 : Nat) : Int) := by decide
  have e4 : wr (8 * wr (5 - 1)) = ((32 : Nat) : Int) := by decide
  have e3 : wr (8 * wr (5 - 2)) = ((24 : Nat) : Int) := by decide
  have e2 : wr (8 * wr (5 - 3)) = ((16 : Nat) : Int) := by decide
  have e1 : wr (8 * wr (5 - 4)) = ((8 : Nat) : Int) := by decide
  have e0 : wr (8 * wr (5 - 5)) = ((0 : Nat) : Int) := by decide
  have w : wr (0 + 1) = 1 ∧ wr (1 + 1) = 2 ∧ wr (2 + 1) = 3 ∧ wr (3 + 1) = 4 ∧ wr (4 + 1) = 5 ∧ wr (5 + 1) = 6 := by decide
  rw [loop7]
  simp only [Option.bind_some, Bool.not_true, cond_false, mac_Bytes_s2, mac_Bytes_j1, e5, e4, e3, e2, e1, e0, w,
    shr_nat n 40 1099511627776 (by decide) rfl, shr_nat n 32 4294967296 (by decide) rfl, shr_nat n 24 16777216 (by decide) rfl, shr_nat n 16 65536 (by decide) rfl, shr_nat n 8 256 (by decide) rfl, shr_nat n 0 1 (by decide) rfl, Nat.div_one, u8_mod]
  simp [idx, upd, List.replicate, bytesI]
theorem refBytes {n : Nat} (h : n < 281474976710656) : ref01_Bytes 100 (n : Int) = some (strOf (bytesI n)) := by
  unfold ref01_Bytes
  have w : wr (0 + 1) = 1 ∧ wr (1 + 1) = 2 ∧ wr (2 + 1) = 3 ∧ wr (3 + 1) = 4 ∧ wr (4 + 1) = 5 ∧ wr (5 + 1) = 6 := by decide
  have r : ∀ m : Nat, irem (m : Int) 256 = some ((m % 256 : Nat) : Int) := fun m => rem_nat (n := 256) (by omega)
  have q : ∀ m : Nat, m < 281474976710656 → iquo (m : Int) 256 = some ((m / 256 : Nat) : Int) := fun m hm => quo_nat (n := 256) (by omega) (by omega)
  have hu : ∀ m : Nat, IntKind.u8.wrap ((m % 256 : Nat) : Int) = ((m % 256 : Nat) : Int) := fun m => by rw [u8_mod]; omega
  have h0 : (⟨#[]⟩ : ByteArray) = strOf [] := rfl
  have d : ∀ i : Int, (decide (i < 6)) = decide (i < 6) := fun _ => rfl
  rw [h0, loop7]
  simp only [ref01_Bytes_s2, ref01_Bytes_j1, w]
  rw [show decide ((0 : Int) < 6) = true by decide, show decide ((1 : Int) < 6) = true by decide, show decide ((2 : Int) < 6) = true by decide, show decide ((3 : Int) < 6) = true by decide, show decide ((4 : Int) < 6) = true by decide, show decide ((5 : Int) < 6) = true by decide, show decide ((6 : Int) < 6) = false by decide]
  simp only [cond_true, cond_false]
  rw [r n]
  simp only [Option.bind_some, hu]
  rw [strAdd_strOf _ _ (by simp), q n h]
  simp only [Option.bind_some]
  rw [r (n / 256)]
  simp only [Option.bind_some, hu]
  rw [strAdd_strOf _ _ (by simp), q (n / 256) (by omega)]
  simp only [Option.bind_some]
  rw [r (n / 256 / 256)]
  simp only [Option.bind_some, hu]
  rw [strAdd_strOf _ _ (by simp), q (n / 256 / 256) (by omega)]
  simp only [Option.bind_some]
  rw [r (n / 256 / 256 / 256)]
  simp only [Option.bind_some, hu]
  rw [strAdd_strOf _ _ (by simp), q (n / 256 / 256 / 256) (by omega)]
  simp only [Option.bind_some]
  rw [r (n / 256 / 256 / 256 / 256)]
  simp only [Option.bind_some, hu]
  rw [strAdd_strOf _ _ (by simp), q (n / 256 / 256 / 256 / 256) (by omega)]
  simp only [Option.bind_some]
  rw [r (n / 256 / 256 / 256 / 256 / 256)]
  simp only [Option.bind_some, hu]
  rw [strAdd_strOf _ _ (by simp), q (n / 256 / 256 / 256 / 256 / 256) (by omega)]
  simp [bytesI, Nat.div_div_eq_div_mul]
end Go.Proofs.Ytafjcdpkanigaaa
