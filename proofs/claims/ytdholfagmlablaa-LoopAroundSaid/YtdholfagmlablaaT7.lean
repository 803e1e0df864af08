/- Two ways to ask whether an address is among a prefix agree at the four prefixes of the law. -/
import Derived.Test.YtdholfagmlablaaT6
namespace Go.Proofs.Ytdholfagmlablaa
open Go.Sx Go.Proofs

theorem bit_nat (a i : Nat) (hi : i < 32) : bitF (a : Int) (i : Int) = a.testBit (31 - i) := by
  have e1 : ((31 : Int) - (i : Int)).toNat = 31 - i := by omega
  have e2 : ((a : Int) / 2 ^ (31 - i)) % 2 = ((a / 2 ^ (31 - i) % 2 : Nat) : Int) := by
    rw [Int.natCast_emod, Int.natCast_ediv, Int.natCast_pow]; rfl
  rw [bitF, e1, e2, Nat.testBit_eq_decide_div_mod_eq]
  rcases Nat.mod_two_eq_zero_or_one (a / 2 ^ (31 - i)) with h | h <;> rw [h] <;> rfl

theorem mask_nat (l : Nat) (hl : l ≤ 32) : maskI (l : Int) = ((2 ^ 32 - 2 ^ (32 - l) : Nat) : Int) := by
  have : ∀ l, l ≤ 32 → maskI ((l : Nat) : Int) = ((2 ^ 32 - 2 ^ (32 - l) : Nat) : Int) := by decide
  exact this l hl

theorem and_nat (a b : Nat) (ha : a < 2 ^ 32) (hb : b < 2 ^ 32) : bits .and .u32 (a : Int) (b : Int) = ((a &&& b : Nat) : Int) := by
  have hb' : bits .and .u32 (a : Int) (b : Int) = IntKind.u32.wrap ((BitVec.ofInt 32 (a : Int) &&& BitVec.ofInt 32 (b : Int)).toNat : Int) := rfl
  have h1 : ∀ x : Nat, x < 2 ^ 32 → (BitVec.ofInt 32 (x : Int)).toNat = x := by
    intro x hx
    rw [BitVec.toNat_ofInt]; omega
  have hle : a &&& b < 2 ^ 32 := Nat.lt_of_le_of_lt Nat.and_le_left ha
  rw [hb', BitVec.toNat_and, h1 a ha, h1 b hb]
  simp only [IntKind.wrap, IntKind.bits, IntKind.signed, Bool.false_and, Bool.false_eq_true, if_false]
  omega

theorem tb_mul (x i j : Nat) : (x * 2 ^ i).testBit j = (decide (j ≥ i) && x.testBit (j - i)) := by
  rw [← Nat.shiftLeft_eq, Nat.testBit_shiftLeft]

theorem top_nat (a m : Nat) (ha : a < 2 ^ 32) (hm : m ≤ 32) : a &&& (2 ^ 32 - 2 ^ m) = a / 2 ^ m * 2 ^ m := by
  apply Nat.eq_of_testBit_eq
  intro j
  have hp : 2 ^ m ≤ 2 ^ 32 := Nat.pow_le_pow_right (by decide) hm
  have h0 : 0 < 2 ^ m := Nat.pow_pos (by decide)
  have e : 2 ^ 32 - 2 ^ m = 2 ^ 32 - ((2 ^ m - 1) + 1) := by omega
  rw [Nat.testBit_and, e, Nat.testBit_two_pow_sub_succ (by omega), Nat.testBit_two_pow_sub_one, tb_mul, Nat.testBit_div_two_pow]
  by_cases hj : j < 32
  · by_cases hjm : j < m
    · have : ¬ j ≥ m := by omega
      simp [hjm, this]
    · have h1 : j ≥ m := by omega
      have h2 : m + (j - m) = j := by omega
      simp [hj, hjm, h1, h2]
  · have hf : a.testBit j = false := Nat.testBit_lt_two_pow (Nat.lt_of_lt_of_le ha (Nat.pow_le_pow_right (by decide) (by omega)))
    have h2 : j ≥ m := by omega
    have h3 : m + (j - m) = j := by omega
    simp [hf, h2, h3]

theorem has_eq (A l a : Nat) (hl : l ≤ 32) (hA : A < 2 ^ 32) (ha : a < 2 ^ 32) (hz : A % 2 ^ (32 - l) = 0) (hr : (Pre.mk A l).right = true) (hr2 : right2 (Pre.mk A l) = true) : has2 ⟨A, l⟩ a = Pre.has ⟨A, l⟩ a := by
  have h32 : 2 ^ (32 - l) ≤ 2 ^ 32 := Nat.pow_le_pow_right (by decide) (by omega)
  have h0 : 0 < 2 ^ (32 - l) := Nat.pow_pos (by decide)
  have e1 : Pre.has ⟨A, l⟩ a = decide (a / 2 ^ (32 - l) * 2 ^ (32 - l) = A) := by
    rw [Pre.has, hr, Bool.true_and]
    simp only
    rw [mask_nat l hl, and_nat a _ ha (by omega), top_nat a (32 - l) ha (by omega)]
    by_cases h : a / 2 ^ (32 - l) * 2 ^ (32 - l) = A
    · simp [h]
    · rw [decide_eq_false h]
      have : ¬ ((a / 2 ^ (32 - l) * 2 ^ (32 - l) : Nat) : Int) = (A : Int) := by omega
      simpa using this
  rw [e1, has2, hr2, Bool.true_and, Bool.eq_iff_iff]
  simp only [List.all_eq_true, List.mem_range, Bool.or_eq_true, decide_eq_true_eq, beq_iff_eq]
  constructor
  · intro h
    apply Nat.eq_of_testBit_eq
    intro j
    rw [tb_mul, Nat.testBit_div_two_pow]
    by_cases hj : j < 32
    · by_cases hjm : j < 32 - l
      · have h1 : ¬ j ≥ 32 - l := by omega
        have h2 : A.testBit j = false := by
          have hd : A = A / 2 ^ (32 - l) * 2 ^ (32 - l) := by
            have := Nat.div_add_mod A (2 ^ (32 - l)); rw [hz, Nat.add_zero, Nat.mul_comm] at this; exact this.symm
          rw [hd, tb_mul]; simp [h1]
        simp [h1, h2]
      · have h1 : j ≥ 32 - l := by omega
        have h2 : 32 - l + (j - (32 - l)) = j := by omega
        rcases h (31 - j) (by omega) with h3 | h3
        · omega
        · rw [bit_nat a (31 - j) (by omega), bit_nat A (31 - j) (by omega)] at h3
          have h4 : 31 - (31 - j) = j := by omega
          rw [h4] at h3
          simp [h1, h2, h3]
    · have hf : a.testBit j = false := Nat.testBit_lt_two_pow (Nat.lt_of_lt_of_le ha (Nat.pow_le_pow_right (by decide) (by omega)))
      have hf2 : A.testBit j = false := Nat.testBit_lt_two_pow (Nat.lt_of_lt_of_le hA (Nat.pow_le_pow_right (by decide) (by omega)))
      have h1 : j ≥ 32 - l := by omega
      have h2 : 32 - l + (j - (32 - l)) = j := by omega
      simp [h1, h2, hf, hf2]
  · intro h i hi
    by_cases hli : l ≤ i
    · exact .inl (by omega)
    · refine .inr ?_
      rw [bit_nat a i hi, bit_nat A i hi, ← h, tb_mul, Nat.testBit_div_two_pow]
      have h1 : 31 - i ≥ 32 - l := by omega
      have h2 : 32 - l + (31 - i - (32 - l)) = 31 - i := by omega
      simp [h1, h2]

theorem has_pfx4 (p : Pre) (hp : p ∈ pfx4) (a : Nat) (ha : a < 2 ^ 32) : has2 p a = p.has a := by
  simp only [pfx4, List.mem_cons, List.not_mem_nil, or_false] at hp
  rcases hp with rfl | rfl | rfl | rfl
  · exact has_eq 167772160 8 a (by decide) (by decide) ha (by decide) (by decide) (by decide)
  · exact has_eq 167837696 16 a (by decide) (by decide) ha (by decide) (by decide) (by decide)
  · exact has_eq 0 0 a (by decide) (by decide) ha (by decide) (by decide) (by decide)
  · exact has_eq 167838211 32 a (by decide) (by decide) ha (by decide) (by decide) (by decide)
#print axioms has_pfx4
end Go.Proofs.Ytdholfagmlablaa
