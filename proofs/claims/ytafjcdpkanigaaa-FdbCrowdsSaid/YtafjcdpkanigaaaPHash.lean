/- Buckets: what the program and the reference come to. No condition. -/
import Derived.Test.YtafjcdpkanigaaaPBytes
set_option linter.unusedVariables false
set_option linter.unusedSimpArgs false
namespace Go.Proofs.Ytafjcdpkanigaaa

theorem bxor_nat {m n : Nat} (hm : m < 4294967296) (hn : n < 4294967296) : bxor .u32 (m : Int) (n : Int) = ((m ^^^ n : Nat) : Int) := by
  show IntKind.u32.wrap (((BitVec.ofInt 32 (m : Int) ^^^ BitVec.ofInt 32 (n : Int)).toNat : Nat) : Int) = _
  rw [ofInt_nat, ofInt_nat, BitVec.toNat_xor, BitVec.toNat_ofNat, BitVec.toNat_ofNat, Nat.mod_eq_of_lt (by omega), Nat.mod_eq_of_lt (by omega), u32_mod]
  have : m ^^^ n < 2 ^ 32 := Nat.xor_lt_two_pow hm hn
  omega
theorem xor_half (x y : Nat) : x ^^^ y = 2 * ((x / 2) ^^^ (y / 2)) + if x % 2 = y % 2 then 0 else 1 := by
  have h1 : (x ^^^ y) / 2 = x / 2 ^^^ y / 2 := Nat.xor_div_two
  have h2 : decide ((x ^^^ y) % 2 = 1) = (decide (x % 2 = 1) ^^ decide (y % 2 = 1)) := by
    have := Nat.testBit_xor (x := x) (y := y) (i := 0)
    simpa only [Nat.testBit_zero] using this
  rw [← h1]
  generalize x ^^^ y = z at h2
  rcases Nat.mod_two_eq_zero_or_one x with hx | hx <;> rcases Nat.mod_two_eq_zero_or_one y with hy | hy <;> simp [hx, hy] at h2 ⊢ <;> omega
theorem turned_eq {x y : Nat} (hx : x < 4294967296) (hy : y < 4294967296) : ref07_turned 100 (x : Int) (y : Int) = some ((x ^^^ y : Nat) : Int) := by
  unfold ref07_turned
  have key := loop_ind (z := (fun _ _ _ _ _ => none : Int → Int → Int → Int → Int → Option Int)) (s := ref07_turned_s3 100) (fun n f => ∀ i x y acc p : Nat, i ≤ 32 → 32 - i < n → p = 2 ^ i → x < 2 ^ (32 - i) → y < 2 ^ (32 - i) → acc < 2 ^ i → f x y acc p i = some ((acc + p * (x ^^^ y) : Nat) : Int))
    (fun i _ _ _ _ _ h => by omega) (fun n f ih i x y acc p hi hn hp hx hy hacc => by
      unfold ref07_turned_s3
      have h32 : 2 ^ i ≤ 4294967296 := Nat.le_trans (Nat.pow_le_pow_right (by omega) hi) (by decide)
      by_cases hlt : i < 32
      · rw [decide_eq_true (by omega), show (2 : Int) = ((2 : Nat) : Int) from rfl, rem_nat (by omega), rem_nat (by omega)]
        simp only [cond_true, Option.bind_some]
        have hpow : 2 ^ (i + 1) = 2 * 2 ^ i := by rw [Nat.pow_succ, Nat.mul_comm]
        have hpow2 : 2 ^ (32 - i) = 2 * 2 ^ (32 - (i + 1)) := by rw [show 32 - i = (32 - (i + 1)) + 1 by omega, Nat.pow_succ, Nat.mul_comm]
        have hb : x < 4294967296 ∧ y < 4294967296 := by
          have : 2 ^ (32 - i) ≤ 2 ^ 32 := Nat.pow_le_pow_right (by omega) (by omega)
          omega
        have hj : ∀ acc' : Nat, acc' < 2 ^ (i + 1) → ref07_turned_j2 100 x y p i f acc' = some ((acc' + 2 * p * ((x / 2) ^^^ (y / 2)) : Nat) : Int) := by
          intro acc' ha
          unfold ref07_turned_j2
          rw [show (2 : Int) = ((2 : Nat) : Int) from rfl, quo_nat (by omega) (by omega), quo_nat (by omega) (by omega)]
          simp only [Option.bind_some]
          rw [show ((2 : Nat) : Int) * (p : Int) = ((2 * p : Nat) : Int) by omega, wr_nat (by omega), show ((i : Int) + 1) = ((i + 1 : Nat) : Int) by omega, wr_nat (by omega)]
          exact ih (i + 1) (x / 2) (y / 2) acc' (2 * p) (by omega) (by omega) (by omega) (by omega) (by omega) ha
        rw [xor_half x y]
        by_cases hne : x % 2 = y % 2
        · have : ((((x % 2 : Nat) : Int)) != ((y % 2 : Nat) : Int)) = false := by simp [hne]
          rw [this, if_pos hne]
          simp only [cond_false]
          rw [hj acc (by omega)]
          congr 2
          rw [Nat.add_zero, ← Nat.mul_assoc, Nat.mul_comm p 2]
        · have : ((((x % 2 : Nat) : Int)) != ((y % 2 : Nat) : Int)) = true := by simp; omega
          rw [this, if_neg hne]
          simp only [cond_true]
          rw [show ((acc : Int) + (p : Int)) = ((acc + p : Nat) : Int) by omega, wr_nat (by omega), hj (acc + p) (by omega)]
          congr 2
          rw [Nat.mul_add, ← Nat.mul_assoc, Nat.mul_comm p 2]; omega
      · have : i = 32 := by omega
        subst this
        have hx0 : x = 0 := by simpa using hx
        have hy0 : y = 0 := by simpa using hy
        subst hx0; subst hy0
        rw [decide_eq_false (by omega)]
        simp [ref07_turned_j1]) 100
  have := key 0 x y 0 1 (by omega) (by omega) rfl hx hy (by decide)
  simpa using this
def fnv (h b : Nat) : Nat := (h ^^^ b) * 16777619 % 4294967296
theorem fnv_lt (h b : Nat) : fnv h b < 4294967296 := Nat.mod_lt _ (by decide)
def hfG (f : Nat → Nat → Nat) (b : Nat → Nat) : Nat → Nat → Nat → Nat
  | 0, _, h => h
  | m + 1, i, h => hfG f b m (i + 1) (f h (b i))
theorem hfG_zero (f : Nat → Nat → Nat) (b : Nat → Nat) (i h : Nat) : hfG f b 0 i h = h := by rw [hfG]
theorem hfG_succ (f : Nat → Nat → Nat) (b : Nat → Nat) (m i h : Nat) : hfG f b (m + 1) i h = hfG f b m (i + 1) (f h (b i)) := by rw [hfG]
def hf (b : Nat → Nat) (m i h : Nat) : Nat := hfG fnv b m i h
theorem hf_zero (b : Nat → Nat) (i h : Nat) : hf b 0 i h = h := hfG_zero _ _ _ _
theorem hf_succ (b : Nat → Nat) (m i h : Nat) : hf b (m + 1) i h = hf b m (i + 1) (fnv h (b i)) := hfG_succ _ _ _ _ _
theorem hf_lt (b : Nat → Nat) (m : Nat) : ∀ i h, h < 4294967296 → hf b m i h < 4294967296 := by
  induction m with
  | zero => intro i h hh; rw [hf_zero]; exact hh
  | succ m ih => intro i h _; rw [hf_succ]; exact ih _ _ (fnv_lt _ _)
theorem fnv_int (x b : Nat) : ((x ^^^ b : Nat) : Int) * 16777619 % 4294967296 = ((fnv x b : Nat) : Int) := by
  unfold fnv
  generalize x ^^^ b = y
  omega
def byteN (n i : Nat) : Nat := (((bytesI n)[i]?).getD ⟨0⟩).n.toNat % 256
theorem byteN_lt (n i : Nat) : byteN n i < 256 := Nat.mod_lt _ (by decide)
theorem sidx_byte {n i : Nat} (h : i < 6) : sidx (strOf (bytesI n)) (i : Int) = some ((byteN n i : Nat) : Int) := by
  have hl : i < (bytesI n).length := h
  rw [sidx_strOf (bytesI n) hl]
  unfold byteN
  rw [List.getElem?_eq_getElem hl]
  rfl
theorem hashN_ex : ∃ f : Nat → Nat, ∀ n, f n = hf (byteN n) (6 - 0) 0 2166136261 := ⟨fun n => hf (byteN n) (6 - 0) 0 2166136261, fun _ => rfl⟩
noncomputable def hashN : Nat → Nat := Classical.choose hashN_ex
theorem hashN_eq (n : Nat) : hashN n = hf (byteN n) (6 - 0) 0 2166136261 := Classical.choose_spec hashN_ex n
theorem hashN_lt (n : Nat) : hashN n < 4294967296 := by rw [hashN_eq]; exact hf_lt _ _ _ _ (by decide)
theorem hashSum {n : Nat} (h : n < 281474976710656) : hash_Sum 100 (n : Int) = some (((hashN n : Nat) : Int), 0) := by
  unfold hash_Sum
  rw [macBytes h, Option.bind_some, show ((strOf (bytesI n), (0 : Int)).2 != 0) = false from rfl, cond_false]
  have hsz : (strOf (bytesI n)).size = 6 := strOf_size _
  have key := loop_ind (z := (fun _ _ => none : (IK .u32) → Int → Option (Int × Int))) (s := hash_Sum_s2 100 (strOf (bytesI n), 0)) (fun q f => ∀ (i x : Nat) (ii : Int) (xx : IK .u32), ii = i → xx = ⟨x⟩ → i ≤ 6 → 6 - i < q → x < 4294967296 → f xx ii = some (((hf (byteN n) (6 - i) i x : Nat) : Int), 0))
    (fun _ _ _ _ _ _ _ h => by omega) (fun q f ih i x ii xx hii hxx hi hq hx => by
      subst hii; subst hxx
      unfold hash_Sum_s2
      simp only [hsz]
      by_cases hlt : i < 6
      · rw [decide_eq_true (by omega), sidx_byte hlt]
        simp only [cond_true, Option.bind_some]
        have hb := byteN_lt n i
        have e1 : IntKind.u32.wrap (bxor .u32 (x : Int) (IntKind.u32.wrap ((byteN n i : Nat) : Int)) * 16777619) = ((fnv x (byteN n i) : Nat) : Int) := by
          rw [u32_mod, u32_mod, show ((byteN n i : Nat) : Int) % 4294967296 = ((byteN n i : Nat) : Int) by omega, bxor_nat hx (by omega)]
          exact fnv_int _ _
        rw [e1, show ((i : Int) + 1) = ((i + 1 : Nat) : Int) by omega, wr_nat (by omega), ih (i + 1) (fnv x (byteN n i)) _ _ rfl rfl (by omega) (by omega) (fnv_lt _ _)]
        rw [show 6 - i = (6 - (i + 1)) + 1 by omega, hf_succ]
      · have : i = 6 := by omega
        subst this
        rw [decide_eq_false (by omega)]
        simp only [cond_false, hash_Sum_j1, Nat.sub_self, hf_zero]
        rw [wr_nat (by omega)]) 100
  rw [hashN_eq]
  exact key 0 2166136261 0 ⟨2166136261⟩ rfl rfl (by omega) (by omega) (by decide)
theorem refSum {n : Nat} (h : n < 281474976710656) : ref07_Sum 100 (n : Int) = some ((hashN n : Nat) : Int) := by
  unfold ref07_Sum
  rw [refBytes h, Option.bind_some]
  have key := loop_ind (z := (fun _ _ => none : Int → Int → Option Int)) (s := ref07_Sum_s2 100 (strOf (bytesI n))) (fun q f => ∀ (i x : Nat) (ii xx : Int), ii = i → xx = x → i ≤ 6 → 6 - i < q → x < 4294967296 → f xx ii = some ((hf (byteN n) (6 - i) i x : Nat) : Int))
    (fun _ _ _ _ _ _ _ h => by omega) (fun q f ih i x ii xx hii hxx hi hq hx => by
      subst hii; subst hxx
      unfold ref07_Sum_s2
      by_cases hlt : i < 6
      · rw [decide_eq_true (by omega), sidx_byte hlt]
        have hb := byteN_lt n i
        simp only [cond_true, Option.bind_some]
        rw [wr_nat (by omega), turned_eq hx (by omega)]
        have hxl : x ^^^ byteN n i < 2 ^ 32 := Nat.xor_lt_two_pow hx (by omega)
        simp only [Option.bind_some]
        rw [show ((x ^^^ byteN n i : Nat) : Int) * 16777619 = (((x ^^^ byteN n i) * 16777619 : Nat) : Int) by omega, wr_nat (by omega), show (4294967296 : Int) = ((4294967296 : Nat) : Int) from rfl, rem_nat (by omega)]
        simp only [Option.bind_some]
        rw [show ((i : Int) + 1) = ((i + 1 : Nat) : Int) by omega, wr_nat (by omega)]
        have := ih (i + 1) (fnv x (byteN n i)) _ _ rfl rfl (by omega) (by omega) (fnv_lt _ _)
        rw [show (((x ^^^ byteN n i) * 16777619 % 4294967296 : Nat) : Int) = ((fnv x (byteN n i) : Nat) : Int) from rfl, this]
        rw [show 6 - i = (6 - (i + 1)) + 1 by omega, hf_succ]
      · have : i = 6 := by omega
        subst this
        rw [decide_eq_false (by omega)]
        simp only [cond_false, ref07_Sum_j1, Nat.sub_self, hf_zero]) 100
  rw [hashN_eq]
  exact key 0 2166136261 0 2166136261 rfl rfl (by omega) (by omega) (by decide)
def sizeB (n : Int) : Bool := decide (n = 1 ∨ n = 2 ∨ n = 4 ∨ n = 8 ∨ n = 16)
theorem isNumber (n : Int) : hash_isNumber 100 n = some (sizeB n) := by
  unfold hash_isNumber sizeB
  by_cases h : 1 ≤ n ∧ n ≤ 16
  · have : n = 1 ∨ n = 2 ∨ n = 3 ∨ n = 4 ∨ n = 5 ∨ n = 6 ∨ n = 7 ∨ n = 8 ∨ n = 9 ∨ n = 10 ∨ n = 11 ∨ n = 12 ∨ n = 13 ∨ n = 14 ∨ n = 15 ∨ n = 16 := by omega
    rcases this with rfl | rfl | rfl | rfl | rfl | rfl | rfl | rfl | rfl | rfl | rfl | rfl | rfl | rfl | rfl | rfl <;> decide
  · have h1 : ((decide (n ≥ 1)) && (decide (n ≤ 16))) = false := by simp; omega
    have h2 : decide (n = 1 ∨ n = 2 ∨ n = 4 ∨ n = 8 ∨ n = 16) = false := by simp; omega
    rw [h1, h2]; rfl
theorem refNumber (n : Int) : ref07_Number 100 n = some (sizeB n) := by
  unfold ref07_Number sizeB
  congr 1
  rw [Bool.eq_iff_iff]; simp [or_assoc]
/-- The bucket of an address. -/
noncomputable def bkt (a : Int) (n : Nat) : Nat := hashN a.toNat % n
theorem hashBucket {a : Int} (ha : 0 ≤ a ∧ a < 281474976710656) {n : Nat} (hn : sizeB n = true) : hash_Bucket 100 a n = some (((bkt a n : Nat) : Int), 0) := by
  unfold hash_Bucket
  rw [isNumber, hn]
  obtain ⟨m, rfl⟩ := Int.eq_ofNat_of_zero_le ha.1
  rw [hashSum (by omega)]
  simp only [Option.bind_some, Bool.not_true, cond_false]
  have hlt : hashN m < 4294967296 := hashN_lt _
  have hn' : n = 1 ∨ n = 2 ∨ n = 4 ∨ n = 8 ∨ n = 16 := by
    have := of_decide_eq_true hn; omega
  unfold bkt
  rw [Int.toNat_natCast]
  rcases hn' with rfl | rfl | rfl | rfl | rfl
  · rw [show wr (((1 : Nat) : Int) - 1) = ((2 ^ 0 - 1 : Nat) : Int) by decide, band_nat (by omega) (by decide), and_mod]
  · rw [show wr (((2 : Nat) : Int) - 1) = ((2 ^ 1 - 1 : Nat) : Int) by decide, band_nat (by omega) (by decide), and_mod]
  · rw [show wr (((4 : Nat) : Int) - 1) = ((2 ^ 2 - 1 : Nat) : Int) by decide, band_nat (by omega) (by decide), and_mod]
  · rw [show wr (((8 : Nat) : Int) - 1) = ((2 ^ 3 - 1 : Nat) : Int) by decide, band_nat (by omega) (by decide), and_mod]
  · rw [show wr (((16 : Nat) : Int) - 1) = ((2 ^ 4 - 1 : Nat) : Int) by decide, band_nat (by omega) (by decide), and_mod]
theorem hashBucket_bad {a : Int} {n : Int} (hn : sizeB n = false) : hash_Bucket 100 a n = some (0, 2) := by
  unfold hash_Bucket
  rw [isNumber, hn]; rfl
theorem refBucket {a : Int} (ha : 0 ≤ a ∧ a < 281474976710656) {n : Nat} (hn : 0 < n) : ref07_Bucket 100 a n = some ((bkt a n : Nat) : Int) := by
  unfold ref07_Bucket
  obtain ⟨m, rfl⟩ := Int.eq_ofNat_of_zero_le ha.1
  rw [refSum (by omega)]
  simp only [Option.bind_some]
  rw [rem_nat hn]; rfl
theorem macB_range {a : Int} (h : macB a = true) : 0 ≤ a ∧ a < 281474976710656 := by
  have := of_decide_eq_true h; omega
end Go.Proofs.Ytafjcdpkanigaaa
