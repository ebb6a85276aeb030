/- Contracts: numbers, instructions (own work). -/
import Derived.Test.YtkonigmefmgepaaDoorTy
import Derived.Test.YtkonigmefmgepaaDoorFwG
import Derived.Test.YtkonigmefmgepaaDoorM
namespace Go.Proofs.YtkonigmefmgepaaDoor
open Go.RowKit
set_option linter.unusedVariables false
set_option linter.unusedSimpArgs false

abbrev IV (n : Int) : Value := .int .i64 n
def insV (x : M.Ins) : List Value := [IV x.op, IV x.a, IV x.n]
abbrev insA (x : M.Ins) : Value := .agg #[IV x.op, IV x.a, IV x.n]

section
variable {W0 : World} {l : List As} {K : Value → C} {pn : Pn}

theorem flag_c {b : Bool} (h : Run W0 l (K (IV (M.flag b)))) : Run W0 l (callS P 104 #[.bool b] K pn) := by
  refine r104 ?_
  unfold S104
  cases b <;> try simp only [pureE, pureT, Nat.zero_add, Nat.reduceAdd, Bool.not_false, Bool.not_true] <;> exact h

theorem jumps_c {x : M.Ins} (h : Run W0 l (K (.bool (M.jumps x)))) : Run W0 l (callS P 82 #[insA x] K pn) := by
  refine r82 ?_
  unfold S82
  refine run_box fun b => ?_
  try simp only [pureE, pureT, Nat.zero_add, Nat.reduceAdd, Bool.not_false, Bool.not_true]
  refine run_ld sc3 (cl1 (i := 0) rfl rfl) ?_
  try simp only [pureE, pureT, Nat.zero_add, Nat.reduceAdd, Bool.not_false, Bool.not_true]
  unfold M.jumps at h
  cases h1 : x.op == 15
  · try simp only [pureE, pureT, Nat.zero_add, Nat.reduceAdd, Bool.not_false, Bool.not_true]
    refine run_ld sc3 (cl1 (i := 0) rfl rfl) ?_
    try simp only [pureE, pureT, Nat.zero_add, Nat.reduceAdd, Bool.not_false, Bool.not_true]
    exact run_drop (by simpa [h1] using h)
  · try simp only [pureE, pureT, Nat.zero_add, Nat.reduceAdd, Bool.not_false, Bool.not_true]
    exact run_drop (by simpa [h1] using h)

theorem sets_c {x : M.Ins} {a : Int} (h : Run W0 l (K (.bool (M.sets x a)))) : Run W0 l (callS P 67 #[insA x, IV a] K pn) := by
  refine r67 ?_
  unfold S67
  refine run_box fun b => ?_
  try simp only [pureE, pureT, Nat.zero_add, Nat.reduceAdd, Bool.not_false, Bool.not_true]
  refine run_ld sc3 (cl1 (i := 0) rfl rfl) ?_
  try simp only [pureE, pureT, Nat.zero_add, Nat.reduceAdd, Bool.not_false, Bool.not_true]
  unfold M.sets at h
  cases h1 : x.op == 3
  · try simp only [pureE, pureT, Nat.zero_add, Nat.reduceAdd, Bool.not_false, Bool.not_true]
    refine run_ld sc3 (cl1 (i := 0) rfl rfl) ?_
    try simp only [pureE, pureT, Nat.zero_add, Nat.reduceAdd, Bool.not_false, Bool.not_true]
    cases h2 : x.op == 21
    · try simp only [pureE, pureT, Nat.zero_add, Nat.reduceAdd, Bool.not_false, Bool.not_true]
      exact run_drop (by simpa [h1, h2] using h)
    · try simp only [pureE, pureT, Nat.zero_add, Nat.reduceAdd, Bool.not_false, Bool.not_true]
      refine run_ld sc3 (cl1 (i := 0) rfl rfl) ?_
      try simp only [pureE, pureT, Nat.zero_add, Nat.reduceAdd, Bool.not_false, Bool.not_true]
      exact run_drop (by simpa [h1, h2] using h)
  · try simp only [pureE, pureT, Nat.zero_add, Nat.reduceAdd, Bool.not_false, Bool.not_true]
    refine run_ld sc3 (cl1 (i := 0) rfl rfl) ?_
    try simp only [pureE, pureT, Nat.zero_add, Nat.reduceAdd, Bool.not_false, Bool.not_true]
    exact run_drop (by simpa [h1] using h)

theorem neg_c {a : Int} (h : Run W0 l (K (IV (M.w64 (0 - a))))) : Run W0 l (callS P 92 #[IV a] K pn) := by
  refine r92 ?_
  unfold S92
  try simp only [pureE, pureT, Nat.zero_add, Nat.reduceAdd, Bool.not_false, Bool.not_true]
  exact h
theorem not_c {a : Int} (h : Run W0 l (K (IV (M.flag (a == 0))))) : Run W0 l (callS P 93 #[IV a] K pn) := by
  refine r93 ?_
  unfold S93
  try simp only [pureE, pureT, Nat.zero_add, Nat.reduceAdd, Bool.not_false, Bool.not_true]
  exact flag_c h
theorem add_c {a b : Int} (h : Run W0 l (K (IV (M.w64 (a + b))))) : Run W0 l (callS P 94 #[IV a, IV b] K pn) := by
  refine r94 ?_
  unfold S94
  try simp only [pureE, pureT, Nat.zero_add, Nat.reduceAdd, Bool.not_false, Bool.not_true]
  exact h
theorem sub_c {a b : Int} (h : Run W0 l (K (IV (M.w64 (a - b))))) : Run W0 l (callS P 95 #[IV a, IV b] K pn) := by
  refine r95 ?_
  unfold S95
  try simp only [pureE, pureT, Nat.zero_add, Nat.reduceAdd, Bool.not_false, Bool.not_true]
  exact h
theorem mul_c {a b : Int} (h : Run W0 l (K (IV (M.w64 (a * b))))) : Run W0 l (callS P 96 #[IV a, IV b] K pn) := by
  refine r96 ?_
  unfold S96
  try simp only [pureE, pureT, Nat.zero_add, Nat.reduceAdd, Bool.not_false, Bool.not_true]
  exact h
theorem and_c {a b : Int} (h : Run W0 l (K (IV (M.w64 (BitVec.ofInt 64 a &&& BitVec.ofInt 64 b).toNat)))) : Run W0 l (callS P 101 #[IV a, IV b] K pn) := by
  refine r101 ?_
  unfold S101
  rw [e_and]
  exact h
theorem or_c {a b : Int} (h : Run W0 l (K (IV (M.w64 (BitVec.ofInt 64 a ||| BitVec.ofInt 64 b).toNat)))) : Run W0 l (callS P 102 #[IV a, IV b] K pn) := by
  refine r102 ?_
  unfold S102
  rw [e_or]
  exact h
theorem less_c {a b : Int} (h : Run W0 l (K (IV (M.flag (decide (a < b)))))) : Run W0 l (callS P 99 #[IV a, IV b] K pn) := by
  refine r99 ?_
  unfold S99
  try simp only [pureE, pureT, Nat.zero_add, Nat.reduceAdd, Bool.not_false, Bool.not_true]
  exact flag_c h
theorem same_c {a b : Int} (h : Run W0 l (K (IV (M.flag (a == b))))) : Run W0 l (callS P 100 #[IV a, IV b] K pn) := by
  refine r100 ?_
  unfold S100
  try simp only [pureE, pureT, Nat.zero_add, Nat.reduceAdd, Bool.not_false, Bool.not_true]
  exact flag_c h
theorem div_c {a b : Int} (h : Run W0 l (K (if b == 0 then .tuple #[IV 0, .bool false] else .tuple #[IV (M.w64 (a.tdiv b)), .bool true]))) : Run W0 l (callS P 97 #[IV a, IV b] K pn) := by
  refine r97 ?_
  unfold S97
  try simp only [pureE, pureT, Nat.zero_add, Nat.reduceAdd, Bool.not_false, Bool.not_true]
  cases hb : b == 0
  · try simp only [pureE, pureT, Nat.zero_add, Nat.reduceAdd, Bool.not_false, Bool.not_true]
    have hb' : b ≠ 0 := by simpa using hb
    rw [nx_val fun w => pv_quo hb']
    simp only [hb, Bool.false_eq_true, if_false] at h
    exact h
  · try simp only [pureE, pureT, Nat.zero_add, Nat.reduceAdd, Bool.not_false, Bool.not_true]
    simp only [hb, if_true] at h
    exact h
theorem mod_c {a b : Int} (h : Run W0 l (K (if b == 0 then .tuple #[IV 0, .bool false] else .tuple #[IV (a.tmod b), .bool true]))) : Run W0 l (callS P 98 #[IV a, IV b] K pn) := by
  refine r98 ?_
  unfold S98
  try simp only [pureE, pureT, Nat.zero_add, Nat.reduceAdd, Bool.not_false, Bool.not_true]
  cases hb : b == 0
  · try simp only [pureE, pureT, Nat.zero_add, Nat.reduceAdd, Bool.not_false, Bool.not_true]
    have hb' : b ≠ 0 := by simpa using hb
    rw [nx_val fun w => pv_rem hb']
    simp only [hb, Bool.false_eq_true, if_false] at h
    exact h
  · try simp only [pureE, pureT, Nat.zero_add, Nat.reduceAdd, Bool.not_false, Bool.not_true]
    simp only [hb, if_true] at h
    exact h

theorem wrapDo_c {op a b : Int} (h : Run W0 l (K (.tuple #[IV (M.doM op a b).1, .bool (M.doM op a b).2]))) : Run W0 l (callS P 90 #[IV op, IV a, IV b] K pn) := by
  refine r90 ?_
  unfold S90
  unfold M.doM at h
  try simp only [pureE, pureT, Nat.zero_add, Nat.reduceAdd, Bool.not_false, Bool.not_true]
  cases h6 : op == 6
  case true =>
    try simp only [pureE, pureT, Nat.zero_add, Nat.reduceAdd, Bool.not_false, Bool.not_true]
    simp only [h6, if_true, Bool.false_eq_true, if_false] at h
    exact neg_c h
  simp only [h6, Bool.false_eq_true, if_false] at h
  try simp only [pureE, pureT, Nat.zero_add, Nat.reduceAdd, Bool.not_false, Bool.not_true]
  cases h7 : op == 7
  case true =>
    try simp only [pureE, pureT, Nat.zero_add, Nat.reduceAdd, Bool.not_false, Bool.not_true]
    simp only [h7, if_true, Bool.false_eq_true, if_false] at h
    exact not_c h
  simp only [h7, Bool.false_eq_true, if_false] at h
  try simp only [pureE, pureT, Nat.zero_add, Nat.reduceAdd, Bool.not_false, Bool.not_true]
  cases h8 : op == 8
  case true =>
    try simp only [pureE, pureT, Nat.zero_add, Nat.reduceAdd, Bool.not_false, Bool.not_true]
    simp only [h8, if_true, Bool.false_eq_true, if_false] at h
    exact add_c h
  simp only [h8, Bool.false_eq_true, if_false] at h
  try simp only [pureE, pureT, Nat.zero_add, Nat.reduceAdd, Bool.not_false, Bool.not_true]
  cases h9 : op == 9
  case true =>
    try simp only [pureE, pureT, Nat.zero_add, Nat.reduceAdd, Bool.not_false, Bool.not_true]
    simp only [h9, if_true, Bool.false_eq_true, if_false] at h
    exact sub_c h
  simp only [h9, Bool.false_eq_true, if_false] at h
  try simp only [pureE, pureT, Nat.zero_add, Nat.reduceAdd, Bool.not_false, Bool.not_true]
  cases h10 : op == 10
  case true =>
    try simp only [pureE, pureT, Nat.zero_add, Nat.reduceAdd, Bool.not_false, Bool.not_true]
    simp only [h10, if_true, Bool.false_eq_true, if_false] at h
    exact mul_c h
  simp only [h10, Bool.false_eq_true, if_false] at h
  try simp only [pureE, pureT, Nat.zero_add, Nat.reduceAdd, Bool.not_false, Bool.not_true]
  cases h11 : op == 11
  case true =>
    try simp only [pureE, pureT, Nat.zero_add, Nat.reduceAdd, Bool.not_false, Bool.not_true]
    simp only [h11, if_true, Bool.false_eq_true, if_false] at h
    refine div_c ?_
    cases hb : b == 0
    · simp only [hb, Bool.false_eq_true, if_false] at h ⊢
      try simp only [pureE, pureT, Nat.zero_add, Nat.reduceAdd, Bool.not_false, Bool.not_true]
      exact h
    · simp only [hb, if_true] at h ⊢
      try simp only [pureE, pureT, Nat.zero_add, Nat.reduceAdd, Bool.not_false, Bool.not_true]
      exact h
  simp only [h11, Bool.false_eq_true, if_false] at h
  try simp only [pureE, pureT, Nat.zero_add, Nat.reduceAdd, Bool.not_false, Bool.not_true]
  cases h12 : op == 12
  case true =>
    try simp only [pureE, pureT, Nat.zero_add, Nat.reduceAdd, Bool.not_false, Bool.not_true]
    simp only [h12, if_true, Bool.false_eq_true, if_false] at h
    refine mod_c ?_
    cases hb : b == 0
    · simp only [hb, Bool.false_eq_true, if_false] at h ⊢
      try simp only [pureE, pureT, Nat.zero_add, Nat.reduceAdd, Bool.not_false, Bool.not_true]
      exact h
    · simp only [hb, if_true] at h ⊢
      try simp only [pureE, pureT, Nat.zero_add, Nat.reduceAdd, Bool.not_false, Bool.not_true]
      exact h
  simp only [h12, Bool.false_eq_true, if_false] at h
  try simp only [pureE, pureT, Nat.zero_add, Nat.reduceAdd, Bool.not_false, Bool.not_true]
  cases h13 : op == 13
  case true =>
    try simp only [pureE, pureT, Nat.zero_add, Nat.reduceAdd, Bool.not_false, Bool.not_true]
    simp only [h13, if_true, Bool.false_eq_true, if_false] at h
    exact less_c h
  simp only [h13, Bool.false_eq_true, if_false] at h
  try simp only [pureE, pureT, Nat.zero_add, Nat.reduceAdd, Bool.not_false, Bool.not_true]
  cases h14 : op == 14
  case true =>
    try simp only [pureE, pureT, Nat.zero_add, Nat.reduceAdd, Bool.not_false, Bool.not_true]
    simp only [h14, if_true, Bool.false_eq_true, if_false] at h
    exact same_c h
  simp only [h14, Bool.false_eq_true, if_false] at h
  try simp only [pureE, pureT, Nat.zero_add, Nat.reduceAdd, Bool.not_false, Bool.not_true]
  cases h15 : op == 15
  case true =>
    try simp only [pureE, pureT, Nat.zero_add, Nat.reduceAdd, Bool.not_false, Bool.not_true]
    simp only [h15, if_true, Bool.false_eq_true, if_false] at h
    exact and_c h
  simp only [h15, Bool.false_eq_true, if_false] at h
  try simp only [pureE, pureT, Nat.zero_add, Nat.reduceAdd, Bool.not_false, Bool.not_true]
  cases h16 : op == 16
  case true =>
    try simp only [pureE, pureT, Nat.zero_add, Nat.reduceAdd, Bool.not_false, Bool.not_true]
    simp only [h16, if_true, Bool.false_eq_true, if_false] at h
    exact or_c h
  simp only [h16, Bool.false_eq_true, if_false] at h
  try simp only [pureE, pureT, Nat.zero_add, Nat.reduceAdd, Bool.not_false, Bool.not_true]
  exact h
theorem do_c {op a b : Int} (h : Run W0 l (K (.tuple #[IV (M.doI op a b).1, .bool (M.doI op a b).2]))) : Run W0 l (callS P 84 #[IV op, IV a, IV b] K pn) := by
  refine r84 ?_
  unfold S84
  try simp only [pureE, pureT, Nat.zero_add, Nat.reduceAdd, Bool.not_false, Bool.not_true]
  refine wrapDo_c ?_
  try simp only [pureE, pureT, Nat.zero_add, Nat.reduceAdd, Bool.not_false, Bool.not_true]
  exact h
end
end Go.Proofs.YtkonigmefmgepaaDoor
