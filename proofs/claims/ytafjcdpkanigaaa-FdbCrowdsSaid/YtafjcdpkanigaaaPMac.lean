/- Addresses and buckets: what the program and the reference come to. No condition. -/
import Derived.Test.YtafjcdpkanigaaaFwS
import Derived.Test.YtafjcdpkanigaaaTD
set_option linter.unusedVariables false
set_option linter.unusedSimpArgs false
namespace Go.Proofs.Ytafjcdpkanigaaa

theorem ofInt_nat (w n : Nat) : BitVec.ofInt w (n : Int) = BitVec.ofNat w n := by simp
theorem i64_nat {n : Nat} (h : n < 9223372036854775808) : IntKind.i64.wrap (n : Int) = n := wr_id (x := n) (by omega) (by omega)
theorem band_nat {m n : Nat} (hm : m < 9223372036854775808) (hn : n < 9223372036854775808) : band .i64 (m : Int) (n : Int) = ((m &&& n : Nat) : Int) := by
  show IntKind.i64.wrap (((BitVec.ofInt 64 (m : Int) &&& BitVec.ofInt 64 (n : Int)).toNat : Nat) : Int) = _
  rw [ofInt_nat, ofInt_nat, BitVec.toNat_and, BitVec.toNat_ofNat, BitVec.toNat_ofNat]
  rw [Nat.mod_eq_of_lt (by omega), Nat.mod_eq_of_lt (by omega)]
  exact i64_nat (Nat.lt_of_le_of_lt Nat.and_le_left hm)
theorem and_mod {x i : Nat} : x &&& (2 ^ i - 1) = x % 2 ^ i := Nat.and_two_pow_sub_one_eq_mod x i
theorem andnot15 {n : Nat} (h : n < 2 ^ 64) : n &&& (2 ^ 64 - 16) = n / 16 * 16 := by
  refine Nat.eq_of_testBit_eq fun i => ?_
  rw [Nat.testBit_and, show (2 ^ 64 - 16 : Nat) = (2 ^ 60 - 1) * 2 ^ 4 by decide, show n / 16 * 16 = n / 2 ^ 4 * 2 ^ 4 by rfl, Nat.testBit_mul_two_pow, Nat.testBit_mul_two_pow, Nat.testBit_two_pow_sub_one, Nat.testBit_div_two_pow]
  by_cases hi : 4 ≤ i
  · simp only [hi, decide_true, Bool.true_and]
    rw [show i - 4 + 4 = i by omega]
    by_cases h6 : i - 4 < 60
    · simp [h6]
    · have : n.testBit i = false := Nat.testBit_lt_two_pow (Nat.lt_of_lt_of_le h (Nat.pow_le_pow_right (by omega) (by omega)))
      simp [this]
  · simp [hi]
theorem bandnot_nat {n : Nat} (h : n < 9223372036854775808) : bandnot .i64 (n : Int) 15 = ((n / 16 * 16 : Nat) : Int) := by
  show IntKind.i64.wrap (((BitVec.ofInt 64 (n : Int) &&& ~~~(BitVec.ofInt 64 15)).toNat : Nat) : Int) = _
  have : ~~~(BitVec.ofInt 64 15) = BitVec.ofNat 64 (2 ^ 64 - 16) := by decide
  rw [this, ofInt_nat, BitVec.toNat_and, BitVec.toNat_ofNat, BitVec.toNat_ofNat, Nat.mod_eq_of_lt (by omega), Nat.mod_eq_of_lt (by decide), andnot15 (by omega)]
  exact i64_nat (by omega)
def macB (a : Int) : Bool := decide (0 ≤ a ∧ a < 281474976710656 ∧ a / 16 ≠ 103282638848 ∧ a / 1099511627776 % 2 = 0)
theorem macR (k : Nat) (a : Int) : mac_Right k a = some (decide (0 ≤ a ∧ a < 281474976710656)) := by
  unfold mac_Right
  congr 1
  rw [Bool.eq_iff_iff]; simp; omega
/-- Of which class an address is. -/
def clsI (a : Int) : Int := if a / 16 = 103282638848 then 2 else a / 1099511627776 % 2
theorem macC (k : Nat) (a : Int) : mac_Class k a = some (if 0 ≤ a ∧ a < 281474976710656 then (clsI a, 0) else (0, 1)) := by
  unfold mac_Class clsI
  rw [macR]
  simp only [Option.bind_some]
  by_cases h : 0 ≤ a ∧ a < 281474976710656
  · rw [decide_eq_true h, if_pos h]
    obtain ⟨n, rfl⟩ := Int.eq_ofNat_of_zero_le h.1
    rw [bandnot_nat (by omega)]
    simp only [Bool.not_true, cond_false]
    have hf : (n : Int).fdiv (2 ^ (min 40 64)) = ((n / 1099511627776 : Nat) : Int) := by
      rw [show min 40 64 = 40 from rfl, show (2 : Int) ^ 40 = ((1099511627776 : Nat) : Int) by decide, Int.fdiv_eq_ediv_of_nonneg _ (by omega)]
      exact Int.natCast_ediv _ _ |>.symm
    rw [hf, show (1 : Int) = ((1 : Nat) : Int) from rfl, band_nat (by omega) (by omega), show (1 : Nat) = 2 ^ 1 - 1 from rfl, and_mod]
    by_cases h2 : (n : Int) / 16 = 103282638848
    · have : (((n / 16 * 16 : Nat) : Int) == 1652522221568) = true := by simp; omega
      rw [this, if_pos h2]; rfl
    · have : (((n / 16 * 16 : Nat) : Int) == 1652522221568) = false := by simp; omega
      rw [this, if_neg h2]
      simp only [cond_false]
      congr 2
  · rw [decide_eq_false h, if_neg h]; rfl
theorem quo_nat {m n : Nat} (hm : m < 9223372036854775808) (hn : 0 < n) : iquo (m : Int) (n : Int) = some ((m / n : Nat) : Int) := by
  unfold iquo
  rw [if_neg (by omega)]
  have : (m : Int).tdiv (n : Int) = ((m / n : Nat) : Int) := by rw [Int.tdiv_eq_ediv_of_nonneg (by omega)]; exact (Int.natCast_ediv _ _).symm
  rw [this, i64_nat (Nat.lt_of_le_of_lt (Nat.div_le_self _ _) hm)]
theorem rem_nat {m n : Nat} (hn : 0 < n) : irem (m : Int) (n : Int) = some ((m % n : Nat) : Int) := by
  unfold irem
  rw [if_neg (by omega), Int.tmod_eq_emod_of_nonneg (by omega)]
  simp
theorem ref01R (k : Nat) (a : Int) : ref01_Right k a = some (decide (0 ≤ a ∧ a < 281474976710656)) := by
  unfold ref01_Right
  congr 1
  rw [Bool.eq_iff_iff]; simp
theorem ref01C (k : Nat) {a : Int} (h : 0 ≤ a ∧ a < 281474976710656) : ref01_Class k a = some (clsI a) := by
  unfold ref01_Class clsI
  obtain ⟨n, rfl⟩ := Int.eq_ofNat_of_zero_le h.1
  rw [show (16 : Int) = ((16 : Nat) : Int) from rfl, show (1099511627776 : Int) = ((1099511627776 : Nat) : Int) from rfl, show (2 : Int) = ((2 : Nat) : Int) from rfl, quo_nat (by omega) (by omega), quo_nat (by omega) (by omega)]
  simp only [Option.bind_some]
  rw [rem_nat (by omega)]
  simp only [Option.bind_some]
  by_cases h2 : (n : Int) / ((16 : Nat) : Int) = 103282638848
  · have : (((n / 16 : Nat) : Int) == 103282638848) = true := by simp; omega
    rw [this, if_pos h2]; rfl
  · have : (((n / 16 : Nat) : Int) == 103282638848) = false := by simp; omega
    rw [this, if_neg h2]
    simp only [cond_false]
    rcases Nat.mod_two_eq_zero_or_one (n / 1099511627776) with h3 | h3 <;> rw [h3] <;> simp <;> omega
theorem macB_eq (a : Int) : macB a = if 0 ≤ a ∧ a < 281474976710656 then clsI a == 0 else false := by
  unfold macB clsI
  rw [Bool.eq_iff_iff]
  split
  · split <;> simp <;> omega
  · simp; omega
theorem isMac (k : Nat) (a : Int) : fdb_isMac k a = some (macB a) := by
  unfold fdb_isMac
  rw [macC, macB_eq]
  simp only [Option.bind_some]
  split <;> simp
theorem refMac (k : Nat) (a : Int) : ref08_Mac k a = some (macB a) := by
  unfold ref08_Mac
  rw [ref01R, macB_eq]
  simp only [Option.bind_some]
  by_cases h : 0 ≤ a ∧ a < 281474976710656
  · rw [decide_eq_true h, if_pos h]
    simp only [cond_true]
    rw [ref01C k h]; rfl
  · rw [decide_eq_false h, if_neg h]; rfl
end Go.Proofs.Ytafjcdpkanigaaa
