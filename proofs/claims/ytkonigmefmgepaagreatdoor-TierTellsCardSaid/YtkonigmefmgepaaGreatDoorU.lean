/- Numbers without a sign, bit by bit: the plain law (own work). -/
import GoSem.Core.View
namespace Go.Proofs.YtkonigmefmgepaaGreatDoor.U
open Go
theorem nat_add (a b : Nat) : a + b = (a ^^^ b) + 2 * (a &&& b) := by
  induction a using Nat.strongRecOn generalizing b with
  | _ a ih =>
    by_cases h0 : a = 0
    · subst h0; simp
    have h := ih (a / 2) (by omega) (b / 2)
    have x1 : (a ^^^ b) / 2 = a / 2 ^^^ b / 2 := Nat.xor_div_two
    have a1 : (a &&& b) / 2 = a / 2 &&& b / 2 := Nat.and_div_two
    rw [← x1, ← a1] at h
    have x2 : (a ^^^ b) % 2 = (a % 2) ^^^ (b % 2) := Nat.xor_mod_two_pow (n := 1)
    have a2 : (a &&& b) % 2 = (a % 2) &&& (b % 2) := Nat.and_mod_two_pow (n := 1)
    rcases Nat.mod_two_eq_zero_or_one a with ha | ha <;> rcases Nat.mod_two_eq_zero_or_one b with hb | hb <;> simp only [ha, hb] at a2 x2 <;> (clear x1 a1; generalize (a ^^^ b) = X at *; generalize (a &&& b) = Y at *; simp at a2 x2; omega)
theorem bv_add (a b : BitVec 64) : (a ^^^ b) + ((a &&& b) <<< 1) = a + b := by
  apply BitVec.eq_of_toNat_eq
  have h := nat_add a.toNat b.toNat
  simp only [BitVec.toNat_add, BitVec.toNat_xor, BitVec.toNat_shiftLeft, BitVec.toNat_and, Nat.shiftLeft_eq]
  omega
theorem low_step {a b : BitVec 64} {i : Nat} (h : ∀ j, j < i → b.getLsbD j = false) : ∀ j, j < i + 1 → ((a &&& b) <<< 1).getLsbD j = false := by
  intro j hj
  rw [BitVec.getLsbD_shiftLeft, BitVec.getLsbD_and]
  by_cases h0 : j < 1
  · simp [h0]
  · rw [h (j - 1) (by omega)]; simp
theorem low_all {b : BitVec 64} (h : ∀ j, j < 64 → b.getLsbD j = false) : b = 0#64 := by
  apply BitVec.eq_of_getLsbD_eq
  intro j hj
  rw [h j hj]; simp
theorem wrapU (n : Int) : IntKind.u64.wrap n = ((BitVec.ofInt 64 n).toNat : Int) := by
  rw [BitVec.toNat_ofInt]
  show _ = _
  unfold IntKind.wrap
  simp [IntKind.bits, IntKind.signed]
  omega
theorem wrapI (n : Int) : IntKind.i64.wrap n = (BitVec.ofInt 64 n).toInt := by
  rw [BitVec.toInt_ofInt]
  unfold IntKind.wrap
  simp [IntKind.bits, IntKind.signed, Int.bmod]
  omega
theorem or_bit {x y : BitVec 64} (h : y.toNat ≤ 1) : ((x <<< 1) ||| y).toNat = 2 * x.toNat % 2 ^ 64 + y.toNat := by
  rw [BitVec.toNat_or, BitVec.toNat_shiftLeft, Nat.shiftLeft_eq]
  have e : x.toNat * 2 ^ 1 % 2 ^ 64 = 2 ^ 1 * (x.toNat % 2 ^ 63) := by omega
  rw [e, ← Nat.two_pow_add_eq_or_of_lt (by omega)]
  omega
theorem bit_one (b : BitVec 64) (i : Nat) : ((b >>> i) &&& 1#64).toNat = b.toNat / 2 ^ i % 2 := by
  rw [BitVec.toNat_and, BitVec.toNat_ushiftRight, Nat.shiftRight_eq_div_pow]
  exact Nat.and_one_is_mod _
theorem mod_succ (b i : Nat) : b % 2 ^ (i + 1) = b % 2 ^ i + 2 ^ i * (b / 2 ^ i % 2) := by
  rw [Nat.pow_succ, Nat.mod_mul]
theorem times_step (a b n : BitVec 64) (i : Nat) (h : n = a * BitVec.ofNat 64 (b.toNat % 2 ^ i)) :
    (if ((b >>> i) &&& 1#64) = 1#64 then n + a <<< i else n) = a * BitVec.ofNat 64 (b.toNat % 2 ^ (i + 1)) := by
  have hb := bit_one b i
  rw [mod_succ]
  split
  · rename_i h1
    rw [h1] at hb
    rw [← show (1#64 : BitVec 64).toNat = b.toNat / 2 ^ i % 2 from hb, h]
    rw [BitVec.shiftLeft_eq_mul_twoPow, ← BitVec.mul_add]
    congr 1
    apply BitVec.eq_of_toNat_eq
    simp [BitVec.toNat_twoPow]
  · rename_i h1
    have : b.toNat / 2 ^ i % 2 = 0 := by
      rcases Nat.mod_two_eq_zero_or_one (b.toNat / 2 ^ i) with h0 | h0
      · exact h0
      · exact absurd (BitVec.eq_of_toNat_eq (by rw [hb, h0]; rfl)) h1
    rw [this, Nat.mul_zero, Nat.add_zero, h]
theorem div_step {A b c : Nat} (hb : 0 < b) (hc : c ≤ 1) : (2 * A + c) / b = 2 * (A / b) + (if b ≤ 2 * (A % b) + c then 1 else 0) ∧ (2 * A + c) % b = (if b ≤ 2 * (A % b) + c then 2 * (A % b) + c - b else 2 * (A % b) + c) := by
  have h1 := Nat.div_add_mod A b
  have h2 := Nat.mod_lt A hb
  generalize A / b = q at *
  generalize A % b = r at *
  subst h1
  split
  · rename_i h
    have e : 2 * (b * q + r) + c = (2 * r + c - b) + b * (2 * q + 1) := by
      rw [Nat.mul_add b, Nat.mul_left_comm b 2 q]; omega
    rw [e, Nat.add_mul_div_left _ _ hb, Nat.add_mul_mod_self_left, Nat.div_eq_of_lt (by omega), Nat.mod_eq_of_lt (by omega)]
    omega
  · rename_i h
    have e : 2 * (b * q + r) + c = (2 * r + c) + b * (2 * q) := by
      rw [Nat.mul_left_comm b 2 q]; omega
    rw [e, Nat.add_mul_div_left _ _ hb, Nat.add_mul_mod_self_left, Nat.div_eq_of_lt (by omega), Nat.mod_eq_of_lt (by omega)]
    omega
theorem nat_or (a b : Nat) : a + b = (a ||| b) + (a &&& b) := by
  induction a using Nat.strongRecOn generalizing b with
  | _ a ih =>
    by_cases h0 : a = 0
    · subst h0; simp
    have h := ih (a / 2) (by omega) (b / 2)
    have x1 : (a ||| b) / 2 = a / 2 ||| b / 2 := Nat.or_div_two
    have a1 : (a &&& b) / 2 = a / 2 &&& b / 2 := Nat.and_div_two
    rw [← x1, ← a1] at h
    have x2 : (a ||| b) % 2 = (a % 2) ||| (b % 2) := Nat.or_mod_two_pow (n := 1)
    have a2 : (a &&& b) % 2 = (a % 2) &&& (b % 2) := Nat.and_mod_two_pow (n := 1)
    rcases Nat.mod_two_eq_zero_or_one a with ha | ha <;> rcases Nat.mod_two_eq_zero_or_one b with hb | hb <;> simp only [ha, hb] at a2 x2 <;> (clear x1 a1; generalize (a ||| b) = X at *; generalize (a &&& b) = Y at *; simp at a2 x2; omega)
theorem bv_or (a b : BitVec 64) : a + b - (a &&& b) = a ||| b := by
  apply BitVec.eq_of_toNat_eq
  have h := nat_or a.toNat b.toNat
  have h1 := (a ||| b).isLt
  have h2 := (a &&& b).isLt
  simp only [BitVec.toNat_sub, BitVec.toNat_add, BitVec.toNat_or, BitVec.toNat_and] at *
  omega
theorem top (x : BitVec 64) : x ^^^ 9223372036854775808#64 = x + 9223372036854775808#64 := by
  rw [← bv_add x]
  rw [show (x &&& 9223372036854775808#64) <<< 1 = 0#64 from low_all fun j hj => ?_, BitVec.add_zero]
  rw [BitVec.getLsbD_shiftLeft, BitVec.getLsbD_and]
  by_cases h0 : j < 1
  · simp [h0]
  · rw [show (9223372036854775808#64 : BitVec 64) = BitVec.twoPow 64 63 from rfl, BitVec.getLsbD_twoPow]
    rw [show decide (63 = j - 1) = false from decide_eq_false (by omega)]
    simp
theorem top_nat {a : Int} (ha : -9223372036854775808 ≤ a ∧ a ≤ 9223372036854775807) : ((BitVec.ofInt 64 a ^^^ 9223372036854775808#64).toNat : Int) = a + 9223372036854775808 := by
  rw [top, BitVec.toNat_add, BitVec.toNat_ofInt]
  simp only [BitVec.toNat_ofNat]
  omega
theorem ofI_inj {a b : Int} (ha : -9223372036854775808 ≤ a ∧ a ≤ 9223372036854775807) (hb : -9223372036854775808 ≤ b ∧ b ≤ 9223372036854775807) : BitVec.ofInt 64 a = BitVec.ofInt 64 b ↔ a = b := by
  rw [← BitVec.toNat_inj, BitVec.toNat_ofInt, BitVec.toNat_ofInt]
  omega
end Go.Proofs.YtkonigmefmgepaaGreatDoor.U
