/- Contracts: what the document's operators tell (own work). -/
import Derived.Test.YtkonigmefmgepaaGreatDoorA
namespace Go.Proofs.YtkonigmefmgepaaGreatDoor
open Go.RowKit
set_option linter.unusedVariables false
set_option linter.unusedSimpArgs false

abbrev In64 (a : Int) : Prop := -9223372036854775808 ≤ a ∧ a ≤ 9223372036854775807
theorem w64_bv (n : Int) : M.w64 n = (BitVec.ofInt 64 n).toInt := U.wrapI n
theorem toInt_w (b : BitVec 64) : b.toInt = M.w64 b.toNat := by rw [w64_bv, show BitVec.ofInt 64 (b.toNat : Int) = b from ofI_nat b]

theorem condS_t {a b : C} : condS (.bool true) a b = a := by simp only [pureE]
theorem condS_f {a b : C} : condS (.bool false) a b = b := by simp only [pureE]

section
variable {W0 : World} {l : List As} {K : Value → C} {pn : Pn}

theorem refDiv {a b : Int} (ha : In64 a) (hb : In64 b) : (BitVec.ofNat 64 a.natAbs / BitVec.ofNat 64 b.natAbs).toNat = a.natAbs / b.natAbs := by
  rw [BitVec.toNat_udiv, BitVec.toNat_ofNat, BitVec.toNat_ofNat, Nat.mod_eq_of_lt (show a.natAbs < 2 ^ 64 by omega), Nat.mod_eq_of_lt (show b.natAbs < 2 ^ 64 by omega)]
theorem refMod {a b : Int} (ha : In64 a) (hb : In64 b) : (BitVec.ofNat 64 a.natAbs % BitVec.ofNat 64 b.natAbs).toNat = a.natAbs % b.natAbs := by
  rw [BitVec.toNat_umod, BitVec.toNat_ofNat, BitVec.toNat_ofNat, Nat.mod_eq_of_lt (show a.natAbs < 2 ^ 64 by omega), Nat.mod_eq_of_lt (show b.natAbs < 2 ^ 64 by omega)]
theorem div_sign (a b : Int) : (if (decide (a < 0) != decide (b < 0)) = true then -((a.natAbs / b.natAbs : Nat) : Int) else ((a.natAbs / b.natAbs : Nat) : Int)) = a.tdiv b := by
  rcases Int.natAbs_eq a with h1 | h1 <;> rcases Int.natAbs_eq b with h2 | h2
  all_goals generalize a.natAbs = n at *; generalize b.natAbs = m at *; subst h1; subst h2
  · rw [show decide ((n : Int) < 0) = false from decide_eq_false (by omega), show decide ((m : Int) < 0) = false from decide_eq_false (by omega)]
    simp
  · rcases Nat.eq_zero_or_pos m with rfl | hm
    · simp
    rw [show decide ((n : Int) < 0) = false from decide_eq_false (by omega), show decide (-(m : Int) < 0) = true from decide_eq_true (by omega), Int.tdiv_neg]
    simp
  · rcases Nat.eq_zero_or_pos n with rfl | hm
    · simp
    rw [show decide ((m : Int) < 0) = false from decide_eq_false (by omega), show decide (-(n : Int) < 0) = true from decide_eq_true (by omega), Int.neg_tdiv]
    simp
  · rcases Nat.eq_zero_or_pos n with rfl | hn
    · simp
    rcases Nat.eq_zero_or_pos m with rfl | hm
    · simp
    rw [show decide (-(m : Int) < 0) = true from decide_eq_true (by omega), show decide (-(n : Int) < 0) = true from decide_eq_true (by omega), Int.neg_tdiv, Int.tdiv_neg]
    simp
theorem mod_sign (a b : Int) : (if (decide (a < 0)) = true then -((a.natAbs % b.natAbs : Nat) : Int) else ((a.natAbs % b.natAbs : Nat) : Int)) = a.tmod b := by
  rw [← show a.tmod b.natAbs = a.tmod b from by
    rcases Int.natAbs_eq b with h2 | h2
    · rw [← h2]
    · rw [h2, Int.tmod_neg]; simp]
  rcases Int.natAbs_eq a with h1 | h1
  all_goals generalize a.natAbs = n at *; generalize b.natAbs = m at *; subst h1
  · rw [show decide ((n : Int) < 0) = false from decide_eq_false (by omega)]
    simp only [Bool.false_eq_true, if_false]
    exact Int.ofNat_tmod _ _
  · rcases Nat.eq_zero_or_pos n with rfl | hn
    · simp
    rw [show decide (-(n : Int) < 0) = true from decide_eq_true (by omega), Int.neg_tmod]
    simp only [if_true]
    rw [Int.ofNat_tmod]

theorem doR_c {op a b : Int} (ha : In64 a) (hb : In64 b) (h : Run W0 l (K (.tuple #[IV (M.doM op a b).1, .bool (M.doM op a b).2]))) : Run W0 l (callS P 68 #[IV op, IV a, IV b] K pn) := by
  refine r68 ?_
  unfold S68
  rw [e_toU, e_toU, e_eql]
  cases h6 : op == 6
  case true =>
    obtain rfl : op = 6 := by simpa using h6
    rw [show M.doM 6 a b = (M.w64 (0 - a), true) from rfl] at h
    try simp only [pureE, pureT, Nat.zero_add, Nat.reduceAdd, Bool.not_false, Bool.not_true]
    rw [show Value.int IntKind.u64 0 = UB 0#64 from rfl]
    refine minus_c ?_
    rw [e_toI, show 0#64 - bvI a = bvI (0 - a) from by apply BitVec.eq_of_toNat_eq; rw [BitVec.toNat_sub, BitVec.toNat_ofInt, BitVec.toNat_ofInt]; simp; omega, ← w64_bv]
    exact h
  try simp only [pureE, pureT, Nat.zero_add, Nat.reduceAdd, Bool.not_false, Bool.not_true]
  cases h7 : op == 7
  case true =>
    obtain rfl : op = 7 := by simpa using h7
    rw [show M.doM 7 a b = (M.flag (a == 0), true) from rfl] at h
    try simp only [pureE, pureT, Nat.zero_add, Nat.reduceAdd, Bool.not_false, Bool.not_true]
    rw [show (((bvI a).toNat : Int) == 0) = (a == 0) from by rw [Bool.eq_iff_iff, beq_iff_eq, beq_iff_eq, BitVec.toNat_ofInt]; omega]
    exact one_c h
  try simp only [pureE, pureT, Nat.zero_add, Nat.reduceAdd, Bool.not_false, Bool.not_true]
  cases h8 : op == 8
  case true =>
    obtain rfl : op = 8 := by simpa using h8
    rw [show M.doM 8 a b = (M.w64 (a + b), true) from rfl] at h
    try simp only [pureE, pureT, Nat.zero_add, Nat.reduceAdd, Bool.not_false, Bool.not_true]
    refine plus_c ?_
    rw [e_toI, ← BitVec.ofInt_add, ← w64_bv]
    exact h
  try simp only [pureE, pureT, Nat.zero_add, Nat.reduceAdd, Bool.not_false, Bool.not_true]
  cases h9 : op == 9
  case true =>
    obtain rfl : op = 9 := by simpa using h9
    rw [show M.doM 9 a b = (M.w64 (a - b), true) from rfl] at h
    try simp only [pureE, pureT, Nat.zero_add, Nat.reduceAdd, Bool.not_false, Bool.not_true]
    refine minus_c ?_
    rw [e_toI, show bvI a - bvI b = bvI (a - b) from by apply BitVec.eq_of_toNat_eq; rw [BitVec.toNat_sub, BitVec.toNat_ofInt, BitVec.toNat_ofInt, BitVec.toNat_ofInt]; omega, ← w64_bv]
    exact h
  try simp only [pureE, pureT, Nat.zero_add, Nat.reduceAdd, Bool.not_false, Bool.not_true]
  cases h10 : op == 10
  case true =>
    obtain rfl : op = 10 := by simpa using h10
    rw [show M.doM 10 a b = (M.w64 (a * b), true) from rfl] at h
    try simp only [pureE, pureT, Nat.zero_add, Nat.reduceAdd, Bool.not_false, Bool.not_true]
    refine times_c ?_
    rw [e_toI, ← BitVec.ofInt_mul, ← w64_bv]
    exact h
  try simp only [pureE, pureT, Nat.zero_add, Nat.reduceAdd, Bool.not_false, Bool.not_true]
  cases h13 : op == 13
  case true =>
    obtain rfl : op = 13 := by simpa using h13
    rw [show M.doM 13 a b = (M.flag (decide (a < b)), true) from rfl] at h
    try simp only [pureE, pureT, Nat.zero_add, Nat.reduceAdd, Bool.not_false, Bool.not_true]
    rw [show Value.int IntKind.u64 9223372036854775808 = UB 9223372036854775808#64 from rfl, e_xorU, e_xorU]
    try simp only [pureE, pureT, Nat.zero_add, Nat.reduceAdd, Bool.not_false, Bool.not_true]
    rw [U.top_nat ha, U.top_nat hb, show decide (a + 9223372036854775808 < b + 9223372036854775808) = decide (a < b) from by rw [Bool.eq_iff_iff, decide_eq_true_eq, decide_eq_true_eq]; omega]
    exact one_c h
  try simp only [pureE, pureT, Nat.zero_add, Nat.reduceAdd, Bool.not_false, Bool.not_true]
  cases h14 : op == 14
  case true =>
    obtain rfl : op = 14 := by simpa using h14
    rw [show M.doM 14 a b = (M.flag (a == b), true) from rfl] at h
    try simp only [pureE, pureT, Nat.zero_add, Nat.reduceAdd, Bool.not_false, Bool.not_true]
    rw [e_xorU, show Value.int IntKind.u64 0 = UB 0#64 from rfl, e_eqlU]
    rw [show decide (bvI a ^^^ bvI b = 0#64) = (a == b) from by rw [Bool.eq_iff_iff, decide_eq_true_eq, beq_iff_eq, BitVec.xor_eq_zero_iff]; exact U.ofI_inj ha hb]
    exact one_c h
  try simp only [pureE, pureT, Nat.zero_add, Nat.reduceAdd, Bool.not_false, Bool.not_true]
  cases h15 : op == 15
  case true =>
    obtain rfl : op = 15 := by simpa using h15
    rw [show M.doM 15 a b = (M.w64 (BitVec.ofInt 64 a &&& BitVec.ofInt 64 b).toNat, true) from rfl] at h
    rw [condS_t, e_andU, e_toI, toInt_w]
    exact h
  rw [condS_f]
  cases h16 : op == 16
  case true =>
    obtain rfl : op = 16 := by simpa using h16
    rw [show M.doM 16 a b = (M.w64 (BitVec.ofInt 64 a ||| BitVec.ofInt 64 b).toNat, true) from rfl] at h
    rw [condS_t]
    refine plus_c ?_
    rw [e_andU]
    refine minus_c ?_
    rw [U.bv_or, e_toI, toInt_w]
    exact h
  have div : ∀ (y : Value) (z : Bool), (op == 11) = z → (z = false → (op == 12) = true) → Run W0 l (S68_k1 K pn (IV op) (IV a) (IV b) (.bool true)) := by
    intro y z h11 h12
    unfold S68_k1
    try simp only [pureE, pureT, Nat.zero_add, Nat.reduceAdd, Bool.not_false, Bool.not_true]
    by_cases hb0 : b = 0
    · subst hb0
      have : M.doM op a 0 = (0, false) := by
        cases z
        · obtain rfl : op = 12 := by simpa using h12 rfl
          rfl
        · obtain rfl : op = 11 := by simpa using h11
          rfl
      rw [this] at h
      rw [show ((0 : Int) == 0) = true from rfl]
      try simp only [pureE, pureT, Nat.zero_add, Nat.reduceAdd, Bool.not_false, Bool.not_true]
      exact h
    · rw [show (b == 0) = false from by simpa using hb0]
      try simp only [pureE, pureT, Nat.zero_add, Nat.reduceAdd, Bool.not_false, Bool.not_true]
      refine size_c ha ?_
      try simp only [pureE, pureT, Nat.zero_add, Nat.reduceAdd, Bool.not_false, Bool.not_true]
      refine size_c hb ?_
      try simp only [pureE, pureT, Nat.zero_add, Nat.reduceAdd, Bool.not_false, Bool.not_true]
      have hbn : BitVec.ofNat 64 b.natAbs ≠ 0#64 := by
        intro h
        have := congrArg BitVec.toNat h
        rw [BitVec.toNat_ofNat, BitVec.toNat_ofNat] at this
        omega
      refine parted_c hbn ?_
      try simp only [pureE, pureT, Nat.zero_add, Nat.reduceAdd, Bool.not_false, Bool.not_true]
      cases z
      · obtain rfl : op = 12 := by simpa using h12 rfl
        rw [show ((12 : Int) == 11) = false from rfl]
        try simp only [pureE, pureT, Nat.zero_add, Nat.reduceAdd, Bool.not_false, Bool.not_true]
        refine signed_c ?_
        rw [refMod ha hb, mod_sign, show M.w64 (a.tmod b) = a.tmod b from wr_in (by
          have h1 := Int.natAbs_tmod a b
          have h2 : a.natAbs % b.natAbs < b.natAbs := Nat.mod_lt _ (by omega)
          have h3 : a.natAbs % b.natAbs ≤ a.natAbs := Nat.mod_le _ _
          omega)]
        rw [show M.doM 12 a b = (a.tmod b, true) from by simp [M.doM, hb0]] at h
        exact h
      · obtain rfl : op = 11 := by simpa using h11
        rw [show ((11 : Int) == 11) = true from rfl]
        try simp only [pureE, pureT, Nat.zero_add, Nat.reduceAdd, Bool.not_false, Bool.not_true]
        rw [nx_val fun w => pv_neqB un4]
        refine signed_c ?_
        rw [refDiv ha hb]
        rw [show (!(decide (a < 0) == decide (b < 0))) = (decide (a < 0) != decide (b < 0)) from rfl, div_sign]
        rw [show M.doM 11 a b = (M.w64 (a.tdiv b), true) from by simp [M.doM, hb0]] at h
        exact h
  try simp only [pureE, pureT, Nat.zero_add, Nat.reduceAdd, Bool.not_false, Bool.not_true]
  cases h11 : op == 11
  case true =>
    try simp only [pureE, pureT, Nat.zero_add, Nat.reduceAdd, Bool.not_false, Bool.not_true]
    exact div (.bool true) true h11 (by simp)
  try simp only [pureE, pureT, Nat.zero_add, Nat.reduceAdd, Bool.not_false, Bool.not_true]
  cases h12 : op == 12
  case true =>
    exact div (.bool true) false h11 (fun _ => h12)
  unfold S68_k1
  try simp only [pureE, pureT, Nat.zero_add, Nat.reduceAdd, Bool.not_false, Bool.not_true]
  rw [show M.doM op a b = (0, false) from by simp [M.doM, h6, h7, h8, h9, h10, h11, h12, h13, h14, h15, h16]] at h
  exact h
end
end Go.Proofs.YtkonigmefmgepaaGreatDoor
