/- Contracts: numbers, instructions (own work). -/
import Derived.Test.YtkonigmefmgepaaGreatDoorTy
import Derived.Test.YtkonigmefmgepaaGreatDoorFwG
import Derived.Test.YtkonigmefmgepaaGreatDoorM
namespace Go.Proofs.YtkonigmefmgepaaGreatDoor
open Go.RowKit
set_option linter.unusedVariables false
set_option linter.unusedSimpArgs false

abbrev IV (n : Int) : Value := .int .i64 n
def insV (x : M.Ins) : List Value := [IV x.op, IV x.a, IV x.n]
abbrev insA (x : M.Ins) : Value := .agg #[IV x.op, IV x.a, IV x.n]

section
variable {W0 : World} {l : List As} {K : Value → C} {pn : Pn}

theorem flag_c {b : Bool} (h : Run W0 l (K (IV (M.flag b)))) : Run W0 l (callS P 120 #[.bool b] K pn) := by
  refine r120 ?_
  unfold S120
  cases b <;> try simp only [pureE, pureT, Nat.zero_add, Nat.reduceAdd, Bool.not_false, Bool.not_true] <;> exact h

theorem jumps_c {x : M.Ins} (h : Run W0 l (K (.bool (M.jumps x)))) : Run W0 l (callS P 98 #[insA x] K pn) := by
  refine r98 ?_
  unfold S98
  refine run_box fun b => ?_
  try simp only [pureE, pureT, Nat.zero_add, Nat.reduceAdd, Bool.not_false, Bool.not_true]
  refine run_ld sc3 (cl1 (i := 0) rfl rfl) ?_
  try simp only [pureE, pureT, Nat.zero_add, Nat.reduceAdd, Bool.not_false, Bool.not_true]
  unfold M.jumps at h
  cases h1 : x.op == 15
  · try simp only [pureE, pureT, Nat.zero_add, Nat.reduceAdd, Bool.not_false, Bool.not_true]
    refine run_ld sc3 (cl1 (i := 0) rfl rfl) ?_
    try simp only [pureE, pureT, Nat.zero_add, Nat.reduceAdd, Bool.not_false, Bool.not_true]
    exact run_drop (by simpa [h1] using h)
  · try simp only [pureE, pureT, Nat.zero_add, Nat.reduceAdd, Bool.not_false, Bool.not_true]
    exact run_drop (by simpa [h1] using h)

theorem sets_c {x : M.Ins} {a : Int} (h : Run W0 l (K (.bool (M.sets x a)))) : Run W0 l (callS P 76 #[insA x, IV a] K pn) := by
  refine r76 ?_
  unfold S76
  refine run_box fun b => ?_
  try simp only [pureE, pureT, Nat.zero_add, Nat.reduceAdd, Bool.not_false, Bool.not_true]
  refine run_ld sc3 (cl1 (i := 0) rfl rfl) ?_
  try simp only [pureE, pureT, Nat.zero_add, Nat.reduceAdd, Bool.not_false, Bool.not_true]
  unfold M.sets at h
  cases h1 : x.op == 3
  · try simp only [pureE, pureT, Nat.zero_add, Nat.reduceAdd, Bool.not_false, Bool.not_true]
    refine run_ld sc3 (cl1 (i := 0) rfl rfl) ?_
    try simp only [pureE, pureT, Nat.zero_add, Nat.reduceAdd, Bool.not_false, Bool.not_true]
    cases h2 : x.op == 21
    · try simp only [pureE, pureT, Nat.zero_add, Nat.reduceAdd, Bool.not_false, Bool.not_true]
      exact run_drop (by simpa [h1, h2] using h)
    · try simp only [pureE, pureT, Nat.zero_add, Nat.reduceAdd, Bool.not_false, Bool.not_true]
      refine run_ld sc3 (cl1 (i := 0) rfl rfl) ?_
      try simp only [pureE, pureT, Nat.zero_add, Nat.reduceAdd, Bool.not_false, Bool.not_true]
      exact run_drop (by simpa [h1, h2] using h)
  · try simp only [pureE, pureT, Nat.zero_add, Nat.reduceAdd, Bool.not_false, Bool.not_true]
    refine run_ld sc3 (cl1 (i := 0) rfl rfl) ?_
    try simp only [pureE, pureT, Nat.zero_add, Nat.reduceAdd, Bool.not_false, Bool.not_true]
    exact run_drop (by simpa [h1] using h)

theorem neg_c {a : Int} (h : Run W0 l (K (IV (M.w64 (0 - a))))) : Run W0 l (callS P 108 #[IV a] K pn) := by
  refine r108 ?_
  unfold S108
  try simp only [pureE, pureT, Nat.zero_add, Nat.reduceAdd, Bool.not_false, Bool.not_true]
  exact h
theorem not_c {a : Int} (h : Run W0 l (K (IV (M.flag (a == 0))))) : Run W0 l (callS P 109 #[IV a] K pn) := by
  refine r109 ?_
  unfold S109
  try simp only [pureE, pureT, Nat.zero_add, Nat.reduceAdd, Bool.not_false, Bool.not_true]
  exact flag_c h
theorem add_c {a b : Int} (h : Run W0 l (K (IV (M.w64 (a + b))))) : Run W0 l (callS P 110 #[IV a, IV b] K pn) := by
  refine r110 ?_
  unfold S110
  try simp only [pureE, pureT, Nat.zero_add, Nat.reduceAdd, Bool.not_false, Bool.not_true]
  exact h
theorem sub_c {a b : Int} (h : Run W0 l (K (IV (M.w64 (a - b))))) : Run W0 l (callS P 111 #[IV a, IV b] K pn) := by
  refine r111 ?_
  unfold S111
  try simp only [pureE, pureT, Nat.zero_add, Nat.reduceAdd, Bool.not_false, Bool.not_true]
  exact h
theorem mul_c {a b : Int} (h : Run W0 l (K (IV (M.w64 (a * b))))) : Run W0 l (callS P 112 #[IV a, IV b] K pn) := by
  refine r112 ?_
  unfold S112
  try simp only [pureE, pureT, Nat.zero_add, Nat.reduceAdd, Bool.not_false, Bool.not_true]
  exact h
theorem and_c {a b : Int} (h : Run W0 l (K (IV (M.w64 (BitVec.ofInt 64 a &&& BitVec.ofInt 64 b).toNat)))) : Run W0 l (callS P 117 #[IV a, IV b] K pn) := by
  refine r117 ?_
  unfold S117
  rw [e_and]
  exact h
theorem or_c {a b : Int} (h : Run W0 l (K (IV (M.w64 (BitVec.ofInt 64 a ||| BitVec.ofInt 64 b).toNat)))) : Run W0 l (callS P 118 #[IV a, IV b] K pn) := by
  refine r118 ?_
  unfold S118
  rw [e_or]
  exact h
theorem less_c {a b : Int} (h : Run W0 l (K (IV (M.flag (decide (a < b)))))) : Run W0 l (callS P 115 #[IV a, IV b] K pn) := by
  refine r115 ?_
  unfold S115
  try simp only [pureE, pureT, Nat.zero_add, Nat.reduceAdd, Bool.not_false, Bool.not_true]
  exact flag_c h
theorem same_c {a b : Int} (h : Run W0 l (K (IV (M.flag (a == b))))) : Run W0 l (callS P 116 #[IV a, IV b] K pn) := by
  refine r116 ?_
  unfold S116
  try simp only [pureE, pureT, Nat.zero_add, Nat.reduceAdd, Bool.not_false, Bool.not_true]
  exact flag_c h
theorem div_c {a b : Int} (h : Run W0 l (K (if b == 0 then .tuple #[IV 0, .bool false] else .tuple #[IV (M.w64 (a.tdiv b)), .bool true]))) : Run W0 l (callS P 113 #[IV a, IV b] K pn) := by
  refine r113 ?_
  unfold S113
  try simp only [pureE, pureT, Nat.zero_add, Nat.reduceAdd, Bool.not_false, Bool.not_true]
  cases hb : b == 0
  · try simp only [pureE, pureT, Nat.zero_add, Nat.reduceAdd, Bool.not_false, Bool.not_true]
    have hb' : b ≠ 0 := by simpa using hb
    rw [nx_val fun w => pv_quo hb']
    simp only [hb, Bool.false_eq_true, if_false] at h
    exact h
  · try simp only [pureE, pureT, Nat.zero_add, Nat.reduceAdd, Bool.not_false, Bool.not_true]
    simp only [hb, if_true] at h
    exact h
theorem mod_c {a b : Int} (h : Run W0 l (K (if b == 0 then .tuple #[IV 0, .bool false] else .tuple #[IV (a.tmod b), .bool true]))) : Run W0 l (callS P 114 #[IV a, IV b] K pn) := by
  refine r114 ?_
  unfold S114
  try simp only [pureE, pureT, Nat.zero_add, Nat.reduceAdd, Bool.not_false, Bool.not_true]
  cases hb : b == 0
  · try simp only [pureE, pureT, Nat.zero_add, Nat.reduceAdd, Bool.not_false, Bool.not_true]
    have hb' : b ≠ 0 := by simpa using hb
    rw [nx_val fun w => pv_rem hb']
    simp only [hb, Bool.false_eq_true, if_false] at h
    exact h
  · try simp only [pureE, pureT, Nat.zero_add, Nat.reduceAdd, Bool.not_false, Bool.not_true]
    simp only [hb, if_true] at h
    exact h

theorem wrapDo_c {op a b : Int} (h : Run W0 l (K (.tuple #[IV (M.doM op a b).1, .bool (M.doM op a b).2]))) : Run W0 l (callS P 106 #[IV op, IV a, IV b] K pn) := by
  refine r106 ?_
  unfold S106
  unfold M.doM at h
  try simp only [pureE, pureT, Nat.zero_add, Nat.reduceAdd, Bool.not_false, Bool.not_true]
  cases h6 : op == 6
  case true =>
    try simp only [pureE, pureT, Nat.zero_add, Nat.reduceAdd, Bool.not_false, Bool.not_true]
    simp only [h6, if_true, Bool.false_eq_true, if_false] at h
    exact neg_c h
  simp only [h6, Bool.false_eq_true, if_false] at h
  try simp only [pureE, pureT, Nat.zero_add, Nat.reduceAdd, Bool.not_false, Bool.not_true]
  cases h7 : op == 7
  case true =>
    try simp only [pureE, pureT, Nat.zero_add, Nat.reduceAdd, Bool.not_false, Bool.not_true]
    simp only [h7, if_true, Bool.false_eq_true, if_false] at h
    exact not_c h
  simp only [h7, Bool.false_eq_true, if_false] at h
  try simp only [pureE, pureT, Nat.zero_add, Nat.reduceAdd, Bool.not_false, Bool.not_true]
  cases h8 : op == 8
  case true =>
    try simp only [pureE, pureT, Nat.zero_add, Nat.reduceAdd, Bool.not_false, Bool.not_true]
    simp only [h8, if_true, Bool.false_eq_true, if_false] at h
    exact add_c h
  simp only [h8, Bool.false_eq_true, if_false] at h
  try simp only [pureE, pureT, Nat.zero_add, Nat.reduceAdd, Bool.not_false, Bool.not_true]
  cases h9 : op == 9
  case true =>
    try simp only [pureE, pureT, Nat.zero_add, Nat.reduceAdd, Bool.not_false, Bool.not_true]
    simp only [h9, if_true, Bool.false_eq_true, if_false] at h
    exact sub_c h
  simp only [h9, Bool.false_eq_true, if_false] at h
  try simp only [pureE, pureT, Nat.zero_add, Nat.reduceAdd, Bool.not_false, Bool.not_true]
  cases h10 : op == 10
  case true =>
    try simp only [pureE, pureT, Nat.zero_add, Nat.reduceAdd, Bool.not_false, Bool.not_true]
    simp only [h10, if_true, Bool.false_eq_true, if_false] at h
    exact mul_c h
  simp only [h10, Bool.false_eq_true, if_false] at h
  try simp only [pureE, pureT, Nat.zero_add, Nat.reduceAdd, Bool.not_false, Bool.not_true]
  cases h11 : op == 11
  case true =>
    try simp only [pureE, pureT, Nat.zero_add, Nat.reduceAdd, Bool.not_false, Bool.not_true]
    simp only [h11, if_true, Bool.false_eq_true, if_false] at h
    refine div_c ?_
    cases hb : b == 0
    · simp only [hb, Bool.false_eq_true, if_false] at h ⊢
      try simp only [pureE, pureT, Nat.zero_add, Nat.reduceAdd, Bool.not_false, Bool.not_true]
      exact h
    · simp only [hb, if_true] at h ⊢
      try simp only [pureE, pureT, Nat.zero_add, Nat.reduceAdd, Bool.not_false, Bool.not_true]
      exact h
  simp only [h11, Bool.false_eq_true, if_false] at h
  try simp only [pureE, pureT, Nat.zero_add, Nat.reduceAdd, Bool.not_false, Bool.not_true]
  cases h12 : op == 12
  case true =>
    try simp only [pureE, pureT, Nat.zero_add, Nat.reduceAdd, Bool.not_false, Bool.not_true]
    simp only [h12, if_true, Bool.false_eq_true, if_false] at h
    refine mod_c ?_
    cases hb : b == 0
    · simp only [hb, Bool.false_eq_true, if_false] at h ⊢
      try simp only [pureE, pureT, Nat.zero_add, Nat.reduceAdd, Bool.not_false, Bool.not_true]
      exact h
    · simp only [hb, if_true] at h ⊢
      try simp only [pureE, pureT, Nat.zero_add, Nat.reduceAdd, Bool.not_false, Bool.not_true]
      exact h
  simp only [h12, Bool.false_eq_true, if_false] at h
  try simp only [pureE, pureT, Nat.zero_add, Nat.reduceAdd, Bool.not_false, Bool.not_true]
  cases h13 : op == 13
  case true =>
    try simp only [pureE, pureT, Nat.zero_add, Nat.reduceAdd, Bool.not_false, Bool.not_true]
    simp only [h13, if_true, Bool.false_eq_true, if_false] at h
    exact less_c h
  simp only [h13, Bool.false_eq_true, if_false] at h
  try simp only [pureE, pureT, Nat.zero_add, Nat.reduceAdd, Bool.not_false, Bool.not_true]
  cases h14 : op == 14
  case true =>
    try simp only [pureE, pureT, Nat.zero_add, Nat.reduceAdd, Bool.not_false, Bool.not_true]
    simp only [h14, if_true, Bool.false_eq_true, if_false] at h
    exact same_c h
  simp only [h14, Bool.false_eq_true, if_false] at h
  try simp only [pureE, pureT, Nat.zero_add, Nat.reduceAdd, Bool.not_false, Bool.not_true]
  cases h15 : op == 15
  case true =>
    try simp only [pureE, pureT, Nat.zero_add, Nat.reduceAdd, Bool.not_false, Bool.not_true]
    simp only [h15, if_true, Bool.false_eq_true, if_false] at h
    exact and_c h
  simp only [h15, Bool.false_eq_true, if_false] at h
  try simp only [pureE, pureT, Nat.zero_add, Nat.reduceAdd, Bool.not_false, Bool.not_true]
  cases h16 : op == 16
  case true =>
    try simp only [pureE, pureT, Nat.zero_add, Nat.reduceAdd, Bool.not_false, Bool.not_true]
    simp only [h16, if_true, Bool.false_eq_true, if_false] at h
    exact or_c h
  simp only [h16, Bool.false_eq_true, if_false] at h
  try simp only [pureE, pureT, Nat.zero_add, Nat.reduceAdd, Bool.not_false, Bool.not_true]
  exact h
theorem do_c {op a b : Int} (h : Run W0 l (K (.tuple #[IV (M.doI op a b).1, .bool (M.doI op a b).2]))) : Run W0 l (callS P 100 #[IV op, IV a, IV b] K pn) := by
  refine r100 ?_
  unfold S100
  try simp only [pureE, pureT, Nat.zero_add, Nat.reduceAdd, Bool.not_false, Bool.not_true]
  refine wrapDo_c ?_
  try simp only [pureE, pureT, Nat.zero_add, Nat.reduceAdd, Bool.not_false, Bool.not_true]
  exact h
end
end Go.Proofs.YtkonigmefmgepaaGreatDoor

/- Contracts: copies, searches (own work). -/
namespace Go.Proofs.YtkonigmefmgepaaGreatDoor
open Go.RowKit
set_option linter.unusedVariables false
set_option linter.unusedSimpArgs false
section
variable {W0 : World} {l : List As} {K : Value → C} {pn : Pn}

theorem cloneIns_c {v : Value} {n : Nat} {xs : List Value} (hr : Rd W0 l 3 v n xs) (h1 : ∀ u ∈ xs, u.oneCell' = true) (hm : n ≤ 4294967296)
    (h : ∀ v', nilS v' = nilS v → Run W0 (row 69 3 v' n xs :: l) (K v')) : Run W0 l (callS P 16 #[v] K pn) := by
  refine r16 ?_
  unfold S16
  rcases hr.2 with ⟨c, rfl, rfl⟩ | ⟨a, c, rfl, h2, h3, h4⟩
  · have : xs = [] := by simpa using hr.1
    subst this
    refine run_nx (.bool true) (fun w => pv_eqlSN un36) ?_
    try simp only [pureE, pureT, Nat.zero_add, Nat.reduceAdd, Bool.not_false, Bool.not_true]
    exact run_rowNil 69 3 (h _ rfl)
  · refine run_nx (.bool false) (fun w => pv_eqlSN un36) ?_
    try simp only [pureE, pureT, Nat.zero_add, Nat.reduceAdd, Bool.not_false, Bool.not_true]
    refine run_buildSlice0 un36 ty69 fun b => ?_
    refine run_rowOfPt 0 3 0 rfl (by simp) (by unfold maxLen; omega) ?_
    refine run_append 0 un36 ty69 rfl rfl (hr.mono fun _ hw => hw.tail) h1 (by unfold maxLen; omega) (by omega) (by omega) fun v' hv' => ?_
    refine Run.of (h v' ?_) fun w hw => ?_
    · cases hq : nilS v' with
      | false => rfl
      | true => exact absurd (hv' hq) (by simp [nilS])
    · simpa using hw

theorem cloneBool_c {v : Value} {n : Nat} {xs : List Value} (hr : Rd W0 l 1 v n xs) (h1 : ∀ u ∈ xs, u.oneCell' = true) (hm : n ≤ 140737488355328)
    (h : ∀ v', nilS v' = nilS v → Run W0 (row 4 1 v' n xs :: l) (K v')) : Run W0 l (callS P 17 #[v] K pn) := by
  refine r17 ?_
  unfold S17
  rcases hr.2 with ⟨c, rfl, rfl⟩ | ⟨a, c, rfl, h2, h3, h4⟩
  · have : xs = [] := by simpa using hr.1
    subst this
    refine run_nx (.bool true) (fun w => pv_eqlSN un56) ?_
    try simp only [pureE, pureT, Nat.zero_add, Nat.reduceAdd, Bool.not_false, Bool.not_true]
    exact run_rowNil 4 1 (h _ rfl)
  · refine run_nx (.bool false) (fun w => pv_eqlSN un56) ?_
    try simp only [pureE, pureT, Nat.zero_add, Nat.reduceAdd, Bool.not_false, Bool.not_true]
    refine run_buildSlice0 un56 ty4 fun b => ?_
    refine run_rowOfPt 0 1 0 rfl (by simp) (by unfold maxLen; omega) ?_
    refine run_append 0 un56 ty4 rfl rfl (hr.mono fun _ hw => hw.tail) h1 (by unfold maxLen; omega) (by omega) (by omega) fun v' hv' => ?_
    refine Run.of (h v' ?_) fun w hw => ?_
    · cases hq : nilS v' with
      | false => rfl
      | true => exact absurd (hv' hq) (by simp [nilS])
    · simpa using hw

theorem cloneEv_c {v : Value} {n : Nat} {xs : List Value} (hr : Rd W0 l 2 v n xs) (h1 : ∀ u ∈ xs, u.oneCell' = true) (hm : n ≤ 4294967296)
    (h : ∀ v', nilS v' = nilS v → Run W0 (row 52 2 v' n xs :: l) (K v')) : Run W0 l (callS P 31 #[v] K pn) := by
  refine r31 ?_
  unfold S31
  rcases hr.2 with ⟨c, rfl, rfl⟩ | ⟨a, c, rfl, h2, h3, h4⟩
  · have : xs = [] := by simpa using hr.1
    subst this
    refine run_nx (.bool true) (fun w => pv_eqlSN un45) ?_
    try simp only [pureE, pureT, Nat.zero_add, Nat.reduceAdd, Bool.not_false, Bool.not_true]
    exact run_rowNil 52 2 (h _ rfl)
  · refine run_nx (.bool false) (fun w => pv_eqlSN un45) ?_
    try simp only [pureE, pureT, Nat.zero_add, Nat.reduceAdd, Bool.not_false, Bool.not_true]
    refine run_buildSlice0 un45 ty52 fun b => ?_
    refine run_rowOfPt 0 2 0 rfl (by simp) (by unfold maxLen; omega) ?_
    refine run_append 0 un45 ty52 rfl rfl (hr.mono fun _ hw => hw.tail) h1 (by unfold maxLen; omega) (by omega) (by omega) fun v' hv' => ?_
    refine Run.of (h v' ?_) fun w hw => ?_
    · cases hq : nilS v' with
      | false => rfl
      | true => exact absurd (hv' hq) (by simp [nilS])
    · simpa using hw

theorem insV_len (x : M.Ins) : (insV x).length = 3 := rfl
theorem insV_one (x : M.Ins) : ∀ u ∈ insV x, u.oneCell' = true := by
  intro u hu
  simp only [insV, List.mem_cons, List.not_mem_nil, or_false] at hu
  rcases hu with rfl | rfl | rfl <;> rfl
abbrev insC (xs : List M.Ins) : List Value := xs.flatMap insV

theorem index_c {p : M.Ins → Bool} {v fv : Value} {n : Nat} {xs : List M.Ins} (hr : Rd W0 l 3 v n (insC xs)) (hn : n ≤ 4294967296)
    (hf : ∀ (x : M.Ins) (K : Value → C) (pn : Pn), Run W0 l (K (.bool (p x))) → Run W0 l (nextS P (callVN fv #[insA x]) K pn))
    (h : ∀ r : Int, (decide (0 ≤ r) = xs.any p) → Run W0 l (K (IV r))) : Run W0 l (callS P 91 #[v, fv] K pn) := by
  refine r91 ?_
  unfold S91
  have hl : xs.length = n := rd_len insV_len (by omega) hr
  obtain ⟨a, c, rfl, h1, h2, h3⟩ := hr.form
  try simp only [pureE, pureT, Nat.zero_add, Nat.reduceAdd, Bool.not_false, Bool.not_true]
  refine run_loop (Inv := fun s : Nat => s ≤ n ∧ (xs.take s).any p = false) (J := fun s => [.slice a n c, fv, IV n, IV s]) (H := fun _ => l) (μ := fun s => n - s) 0 ⟨by omega, by simp⟩ rfl (fun _ hw => hw) ?_
  rintro s e ⟨hs, hp⟩ he
  simp only [List.map_cons, List.map_nil, List.cons.injEq, and_true] at he
  obtain ⟨e0, e1, e7, e8⟩ := he
  unfold S91_l1
  simp only [e0, e1, e7, e8]
  try simp only [pureE, pureT, Nat.zero_add, Nat.reduceAdd, Bool.not_false, Bool.not_true]
  by_cases hlt : s < n
  · rw [dec_t (show (s : Int) < n by omega)]
    try simp only [pureE, pureT, Nat.zero_add, Nat.reduceAdd, Bool.not_false, Bool.not_true]
    obtain ⟨x, hx⟩ : ∃ x, xs[s]? = some x := ⟨_, List.getElem?_eq_getElem (by omega)⟩
    have htk : (xs.take (s + 1)).any p = p x := by
      rw [List.take_add_one, List.any_append, hp, hx]; simp
    refine run_rd_idx un36 ty69 insV_len (by omega) hr s hx fun b o hc => ?_
    refine run_lda ag69 ty69 rfl hc ?_
    refine hf x _ _ ?_
    cases hpx : p x
    · try simp only [pureE, pureT, Nat.zero_add, Nat.reduceAdd, Bool.not_false, Bool.not_true]
      refine run_nxt (s + 1) ⟨by omega, by rw [htk, hpx]⟩ (by omega) ?_ fun _ hw => hw
      rw [show IntKind.i64.wrap ((s : Int) + 1) = ((s + 1 : Nat) : Int) from (wr_in (by omega)).trans (by omega)]
    · try simp only [pureE, pureT, Nat.zero_add, Nat.reduceAdd, Bool.not_false, Bool.not_true]
      refine h s ?_
      have : xs.any p = true := by
        rw [← List.take_append_drop (s + 1) xs, List.any_append, htk, hpx]; rfl
      rw [this]
      exact dec_t (by omega)
  · rw [dec_f (show ¬ (s : Int) < n by omega)]
    try simp only [pureE, pureT, Nat.zero_add, Nat.reduceAdd, Bool.not_false, Bool.not_true]
    refine h (-1) ?_
    rw [List.take_of_length_le (by omega)] at hp
    rw [hp]
    rfl

theorem contains_c {p : M.Ins → Bool} {v fv : Value} {n : Nat} {xs : List M.Ins} (hr : Rd W0 l 3 v n (insC xs)) (hn : n ≤ 4294967296)
    (hf : ∀ (x : M.Ins) (K : Value → C) (pn : Pn), Run W0 l (K (.bool (p x))) → Run W0 l (nextS P (callVN fv #[insA x]) K pn))
    (h : Run W0 l (K (.bool (xs.any p)))) : Run W0 l (callS P 74 #[v, fv] K pn) := by
  refine r74 ?_
  unfold S74
  refine index_c hr hn hf fun r hr' => ?_
  try simp only [pureE, pureT, Nat.zero_add, Nat.reduceAdd, Bool.not_false, Bool.not_true]
  rw [hr']
  exact h

/-- The search for a jump to a place. -/
theorem freeF_c {b i : Nat} {T : TypeId} {at_ : Int} (hi : l[i]? = some (pt b T [IV at_])) (x : M.Ins) (K : Value → C) (pn : Pn) (h : Run W0 l (K (.bool (M.jumps x && x.a == at_)))) :
    Run W0 l (nextS P (callVN (.func (.func 99) #[] #[.pointer (some ⟨b, 0, none⟩)]) #[insA x]) K pn) := by
  rw [callVN_eq]
  refine r99 ?_
  unfold S99
  refine run_box fun bb => ?_
  refine run_lda ag69 ty69 rfl (.pt (i := 0) rfl 0 (insV x) fun j v hj => by rw [Nat.zero_add]; exact hj) ?_
  refine jumps_c ?_
  cases hj : M.jumps x
  · try simp only [pureE, pureT, Nat.zero_add, Nat.reduceAdd, Bool.not_false, Bool.not_true]
    exact run_drop (by simpa [hj] using h)
  · try simp only [pureE, pureT, Nat.zero_add, Nat.reduceAdd, Bool.not_false, Bool.not_true]
    refine run_ld sc3 (cl1 (i := 0) rfl rfl) ?_
    refine run_ld sc3 (cl1 (i := i + 1) (by simpa using hi) rfl) ?_
    try simp only [pureE, pureT, Nat.zero_add, Nat.reduceAdd, Bool.not_false, Bool.not_true]
    exact run_drop (by simpa [hj] using h)
theorem fixF_c {b i : Nat} {T : TypeId} {p : Int} (hi : l[i]? = some (pt b T [IV p])) (x : M.Ins) (K : Value → C) (pn : Pn) (h : Run W0 l (K (.bool (M.sets x p)))) :
    Run W0 l (nextS P (callVN (.func (.func 75) #[] #[.pointer (some ⟨b, 0, none⟩)]) #[insA x]) K pn) := by
  rw [callVN_eq]
  refine r75 ?_
  unfold S75
  refine run_box fun bb => ?_
  refine run_lda ag69 ty69 rfl (.pt (i := 0) rfl 0 (insV x) fun j v hj => by rw [Nat.zero_add]; exact hj) ?_
  refine run_ld sc3 (cl1 (i := i + 1) (by simpa using hi) rfl) ?_
  refine sets_c ?_
  exact run_drop h
end
end Go.Proofs.YtkonigmefmgepaaGreatDoor

/- Contracts: folding (own work). -/
namespace Go.Proofs.YtkonigmefmgepaaGreatDoor
open Go.RowKit
set_option linter.unusedVariables false
set_option linter.unusedSimpArgs false

theorem St.nil {W0 : World} {l : List As} {w : World} (h : St W0 l w) : St W0 [] w := by
  have : l ++ [] = l := List.append_nil l
  rw [← this] at h
  exact h.drop2
theorem wrN {x : Int} (n : Nat) (h : x = n) (hb : n ≤ 4611686018427387904) : IntKind.i64.wrap x = (n : Int) := by
  rw [h]; exact wr_in (by omega)
theorem set_get {A : As} {l : List As} {i : Nat} {B : As} (hi : l[i]? = some B) : (l.set i A)[i]? = some A := by
  have := (List.getElem?_eq_some_iff.1 hi).1
  simp [this]
theorem erase_set {A : As} {l : List As} {i : Nat} : (l.set i A).eraseIdx i = l.eraseIdx i := by
  simp [List.eraseIdx_set_eq]

section
variable {W0 : World} {l : List As} {K : Value → C} {pn : Pn}

theorem repl_c {i b n c m at_ many : Nat} {bv : Value} {xs by_ : List M.Ins} (hi : l[i]? = some (row 69 3 (.slice (some ⟨b, 0, none⟩) n c) n (insC xs))) (hr : Rd W0 (l.eraseIdx i) 3 bv m (insC by_)) (hc : n ≤ c) (hcm : c ≤ maxLen)
    (hn : n ≤ 4294967296) (h0 : 0 < many) (hfit : at_ + many ≤ n) (hm : m ≤ many)
    (h : Run W0 (l.set i (row 69 3 (.slice (some ⟨b, 0, none⟩) (n - many + m) c) (n - many + m) (insC (M.repl at_ many by_ xs)))) (K (.slice (some ⟨b, 0, none⟩) (n - many + m) c))) :
    Run W0 l (callS P 97 #[.slice (some ⟨b, 0, none⟩) n c, IV at_, IV ((at_ + many : Nat) : Int), bv] K pn) := by
  refine r97 ?_
  unfold S97
  have hlen : by_.length = m := rd_len insV_len (by omega) hr
  obtain ⟨av, cv, rfl, hv1, hv2, hv3⟩ := hr.form
  refine run_row_rd i hi fun hrd => ?_
  have hxl : xs.length = n := rd_len insV_len (by omega) hrd
  have hrl : Rd W0 l 3 (.slice av m cv) m (insC by_) := hr.mono fun _ hw => hw.erase i
  have hb1 := flat_one (f := insV) insV_one by_
  refine run_nx _ (fun w => pv_cut un36 ty69 (i := (at_ : Int)) (j := ((at_ + many : Nat) : Int)) (by omega) (by omega) (by omega)) ?_
  try simp only [pureE, pureT, Nat.zero_add, Nat.reduceAdd, Bool.not_false, Bool.not_true]
  rw [show ((at_ : Int) == ((at_ + many : Nat) : Int)) = false from by simp; omega]
  try simp only [pureE, pureT, Nat.zero_add, Nat.reduceAdd, Bool.not_false, Bool.not_true]
  by_cases hend : at_ + many = n
  · rw [show (((at_ + many : Nat) : Int) == (n : Int)) = true from by simp; omega]
    try simp only [pureE, pureT, Nat.zero_add, Nat.reduceAdd, Bool.not_false, Bool.not_true]
    refine run_nx _ (fun w => pv_cutHi un36 ty69 (i := (at_ : Int)) (by omega) (by omega) (by rintro x ⟨⟩ _; rfl)) ?_
    rw [Int.toNat_natCast]
    refine run_append_in i un36 ty69 hi hrl hb1 (by omega) ?_
    rw [flat_splice insV_len, hlen]
    try simp only [pureE, pureT, Nat.zero_add, Nat.reduceAdd, Bool.not_false, Bool.not_true]
    have hsame : M.repl at_ many by_ xs = xs.take at_ ++ by_ := by
      unfold M.repl
      rw [List.drop_of_length_le (by omega), List.append_nil]
    by_cases hlt : at_ + m < n
    · rw [dec_t (show ((at_ + m : Nat) : Int) < (n : Int) by omega)]
      try simp only [pureE, pureT, Nat.zero_add, Nat.reduceAdd, Bool.not_false, Bool.not_true]
      refine run_nx _ (fun w => pv_cutLo un36 ty69 (i := ((at_ + m : Nat) : Int)) (by omega) (by omega) (by omega)) ?_
      rw [Int.toNat_natCast]
      refine run_clear_cut i un36 ty69 rfl (by simp [Value.cells, Value.oneCell']) (set_get hi) (by omega) ?_
      rw [List.set_set, flat_take insV_len]
      unfold S97_k1
      have e : (xs.take at_ ++ (by_ ++ xs.drop (at_ + m))).take (at_ + m) = xs.take at_ ++ by_ := by
        rw [← List.append_assoc, List.take_left' (by simp; omega)]
      rw [e, ← hsame]
      rw [show n - many + m = at_ + m by omega] at h
      exact h
    · rw [dec_f (show ¬ ((at_ + m : Nat) : Int) < (n : Int) by omega)]
      try simp only [pureE, pureT, Nat.zero_add, Nat.reduceAdd, Bool.not_false, Bool.not_true]
      unfold S97_k1
      have e : xs.take at_ ++ (by_ ++ xs.drop (at_ + m)) = xs.take at_ ++ by_ := by
        rw [List.drop_of_length_le (by omega), List.append_nil]
      rw [e, ← hsame]
      have e2 : n - many + m = n := by omega
      rw [e2] at h
      rw [show at_ + m = n by omega]
      exact h
  · rw [show (((at_ + many : Nat) : Int) == (n : Int)) = false from by simp; omega]
    try simp only [pureE, pureT, Nat.zero_add, Nat.reduceAdd, Bool.not_false, Bool.not_true]
    refine run_draw [] (fun _ hw => hw.nil) ?_
    refine run_px _ (fun w => pv_cutHi un36 ty69 (i := (at_ : Int)) (by omega) (by omega) (by rintro x ⟨⟩ _; rfl)) ?_
    rw [Int.toNat_natCast]
    refine run_tk _ (fun w => pv_len un36) ?_
    refine run_tk _ (fun w => pv_len un36) ?_
    try simp only [pureE, pureT, Nat.zero_add, Nat.reduceAdd, Bool.not_false, Bool.not_true]
    rw [wrN (x := (at_ : Int) + m) (at_ + m) (by omega) (by omega)]
    refine run_px _ (fun w => pv_cutLo un36 ty69 (i := ((at_ + many : Nat) : Int)) (by omega) (by omega) (by omega)) ?_
    rw [Int.toNat_natCast]
    refine run_tk _ (fun w => pv_len un36) ?_
    try simp only [pureE, pureT, Nat.zero_add, Nat.reduceAdd, Bool.not_false, Bool.not_true]
    rw [wrN (n - many + m) (by omega) (by omega)]
    refine run_nx _ (fun w => pv_cap un36) ?_
    try simp only [pureE, pureT, Nat.zero_add, Nat.reduceAdd, Bool.not_false, Bool.not_true]
    rw [dec_f (show ¬ (c : Int) < ((n - many + m : Nat) : Int) by omega)]
    try simp only [pureE, pureT, Nat.zero_add, Nat.reduceAdd, Bool.not_false, Bool.not_true]
    refine run_nx _ (fun w => pv_cutHi un36 ty69 (i := ((n - many + m : Nat) : Int)) (by omega) (by omega) (by rintro x ⟨⟩ _; rfl)) ?_
    rw [Int.toNat_natCast]
    rw [dec_t (show ((at_ + m : Nat) : Int) ≤ ((at_ + many : Nat) : Int) by omega)]
    try simp only [pureE, pureT, Nat.zero_add, Nat.reduceAdd, Bool.not_false, Bool.not_true]
    refine run_nx _ (fun w => pv_cutLo un36 ty69 (i := (at_ : Int)) (by omega) (by omega) (by omega)) ?_
    rw [Int.toNat_natCast, if_neg (show ¬ c = at_ by omega), Nat.zero_add]
    refine run_copy_row' un36 ty69 hi hrl hb1 ?_ ?_
    · rw [Nat.min_eq_left (by omega), List.length_take, flat_len insV_len, flat_len insV_len, hlen, hxl]
      have : at_ * 3 + m * 3 ≤ n * 3 := by omega
      have : min (m * 3) (m * 3) = m * 3 := Nat.min_self _
      omega
    rw [Nat.min_eq_left (show m ≤ n - many + m - at_ by omega), List.take_of_length_le (show (insC by_).length ≤ m * 3 by rw [flat_len insV_len, hlen]; exact Nat.le_refl _), flat_splice insV_len, hlen]
    refine run_draw [] (fun _ hw => hw.nil) ?_
    refine run_tk _ (fun w => pv_len un36) ?_
    try simp only [pureE, pureT, Nat.zero_add, Nat.reduceAdd, Bool.not_false, Bool.not_true]
    rw [wrN (x := (at_ : Int) + m) (at_ + m) (by omega) (by omega)]
    refine run_px _ (fun w => pv_cutLo un36 ty69 (i := ((at_ + m : Nat) : Int)) (by omega) (by omega) (by omega)) ?_
    rw [Int.toNat_natCast, if_neg (show ¬ c = at_ + m by omega), Nat.zero_add]
    refine run_px _ (fun w => pv_cutLo un36 ty69 (i := ((at_ + many : Nat) : Int)) (by omega) (by omega) (by omega)) ?_
    rw [Int.toNat_natCast]
    refine run_row_rd i (set_get hi) fun hrd1 => ?_
    have hcut := rd_cutLo (P := P) un36 ty69 insV_len (by omega) hrd1 (i := at_ + many) (by omega)
    have e1 : (xs.take at_ ++ (by_ ++ xs.drop (at_ + m))).drop (at_ + many) = xs.drop (at_ + many) := by
      rw [← List.append_assoc, List.drop_append, List.drop_of_length_le (by simp; omega), List.nil_append, List.drop_drop]
      congr 1
      simp; omega
    rw [e1] at hcut
    have hdl : (xs.drop (at_ + many)).length = n - (at_ + many) := by rw [List.length_drop, hxl]
    refine run_copy_row' un36 ty69 (set_get hi) hcut (flat_one (f := insV) insV_one _) ?_ ?_
    · rw [Nat.min_eq_left (by omega), List.length_take, flat_len insV_len, flat_len insV_len, hdl]
      simp only [List.length_append, List.length_take, List.length_drop, hxl, hlen]
      have : min ((n - (at_ + many)) * 3) ((n - (at_ + many)) * 3) = (n - (at_ + many)) * 3 := Nat.min_self _
      omega
    rw [Nat.min_eq_left (show n - (at_ + many) ≤ n - many + m - (at_ + m) by omega), List.take_of_length_le (show (insC (xs.drop (at_ + many))).length ≤ (n - (at_ + many)) * 3 by rw [flat_len insV_len, hdl]; exact Nat.le_refl _), List.set_set, flat_splice insV_len]
    refine run_and (fun _ hw => hw.nil) ?_
    refine run_nx _ (fun w => pv_cutLo un36 ty69 (i := ((n - many + m : Nat) : Int)) (by omega) (by omega) (by omega)) ?_
    rw [Int.toNat_natCast]
    refine run_clear_cut i un36 ty69 rfl (by simp [Value.cells, Value.oneCell']) (set_get hi) (by omega) ?_
    rw [List.set_set, flat_take insV_len]
    have e : ((xs.take at_ ++ (by_ ++ xs.drop (at_ + m))).take (at_ + m) ++ (xs.drop (at_ + many) ++ (xs.take at_ ++ (by_ ++ xs.drop (at_ + m))).drop (at_ + m + (xs.drop (at_ + many)).length))).take (n - many + m) = M.repl at_ many by_ xs := by
      unfold M.repl
      have ea : (xs.take at_ ++ (by_ ++ xs.drop (at_ + m))).take (at_ + m) = xs.take at_ ++ by_ := by
        rw [← List.append_assoc, List.take_left' (by simp; omega)]
      rw [ea, ← List.append_assoc (xs.take at_ ++ by_), List.take_left' (by simp only [List.length_append, List.length_take, hxl, hlen, hdl]; omega), List.append_assoc]
    rw [e]
    exact h
end
end Go.Proofs.YtkonigmefmgepaaGreatDoor

/- Contracts: the folder's methods (own work). -/
namespace Go.Proofs.YtkonigmefmgepaaGreatDoor
open Go.RowKit
set_option linter.unusedVariables false
set_option linter.unusedSimpArgs false

abbrev Ptr (b : Nat) : Value := .pointer (some ⟨b, 0, none⟩)
def foldA (fb : Nat) (xs : List M.Ins) : As := obj fun (v : Value) => [pt fb 162 [v], row 69 3 v xs.length (insC xs)]

theorem set_self {α : Type} {xs : List α} {s : Nat} {x : α} (h : xs[s]? = some x) : xs.set s x = xs := by
  obtain ⟨hlt, he⟩ := List.getElem?_eq_some_iff.1 h
  subst he
  exact List.set_getElem_self hlt
theorem repl_len {at_ many : Nat} {by_ xs : List M.Ins} (h : at_ + many ≤ xs.length) : (M.repl at_ many by_ xs).length = xs.length - many + by_.length := by
  unfold M.repl
  simp only [List.length_append, List.length_take, List.length_drop]
  omega

section
variable {W0 : World} {l : List As} {K : Value → C} {pn : Pn}

theorem replace_c {i fb m at_ many : Nat} {bv : Value} {xs by_ : List M.Ins} (hi : l[i]? = some (foldA fb xs)) (hr : Rd W0 (l.eraseIdx i) 3 bv m (insC by_))
    (hn : xs.length ≤ 4294967296) (h0 : 0 < many) (hfit : at_ + many ≤ xs.length) (hm : m ≤ many)
    (h : Run W0 (l.set i (foldA fb (M.replace at_ many by_ xs))) (K (.tuple #[]))) :
    Run W0 l (callS P 92 #[Ptr fb, IV at_, IV many, bv] K pn) := by
  refine r92 ?_
  unfold S92
  have hlen : by_.length = m := rd_len insV_len (by omega) hr
  refine run_open i hi fun v => ?_
  refine run_row_cases 1 rfl (fun _ h2 _ => absurd h2 (by omega)) fun b cp hv hnc hcm _ => ?_
  subst hv
  try simp only [pureE, pureT, Nat.zero_add, Nat.reduceAdd, Bool.not_false, Bool.not_true]
  refine run_ld sc36 (cl1 (i := 0) rfl rfl) ?_
  rw [wrN (x := (at_ : Int) + many) (at_ + many) (by omega) (by omega)]
  refine repl_c (i := 1) (m := m) rfl (hr.mono fun _ hw => hw.tail) hnc hcm hn h0 hfit hm ?_
  try simp only [pureE, pureT, Nat.zero_add, Nat.reduceAdd, Bool.not_false, Bool.not_true]
  refine run_st ty36 (i := 0) rfl rfl (by simp [Value.cells, Value.oneCell']) (by simp) ?_
  refine run_ld sc36 (cl1 (i := 0) rfl rfl) ?_
  try simp only [pureE, pureT, Nat.zero_add, Nat.reduceAdd, Bool.not_false, Bool.not_true]
  have hyl : (M.repl at_ many by_ xs).length = xs.length - many + m := by rw [repl_len hfit, hlen]
  generalize hys : M.repl at_ many by_ xs = ys at *
  generalize hn' : xs.length - many + m = n' at *
  obtain ⟨av, cv, rfl, hv1, hv2, hv3⟩ := hr.form
  refine run_loop (Inv := fun s : Nat => s ≤ n') (J := fun s => [Ptr fb, IV at_, IV many, .slice av m cv, IV n', IV s])
    (H := fun s => pt fb 162 [.slice (some ⟨b, 0, none⟩) n' cp] :: row 69 3 (.slice (some ⟨b, 0, none⟩) n' cp) n' (insC ((ys.take s).map (M.fix at_ many m) ++ ys.drop s)) :: l.eraseIdx i) (μ := fun s => n' - s) 0 (by omega) rfl ?_ ?_
  · intro w hw
    exact hw
  intro s e hs he
  simp only [List.map_cons, List.map_nil, List.cons.injEq, and_true] at he
  obtain ⟨e0, e1, e2, e3, e27, e28⟩ := he
  unfold S92_l1
  simp only [e0, e1, e2, e3, e27, e28]
  try simp only [pureE, pureT, Nat.zero_add, Nat.reduceAdd, Bool.not_false, Bool.not_true]
  by_cases hlt : s < n'
  · rw [dec_t (show (s : Int) < n' by omega)]
    try simp only [pureE, pureT, Nat.zero_add, Nat.reduceAdd, Bool.not_false, Bool.not_true]
    obtain ⟨x, hx⟩ : ∃ x, ys[s]? = some x := ⟨_, List.getElem?_eq_getElem (by omega)⟩
    have hx' := map_at (M.fix at_ many m) hx
    have hst := map_step (M.fix at_ many m) hx
    refine run_ld sc36 (cl1 (i := 0) rfl rfl) ?_
    refine run_nx _ (fun w => pv_idx un36 ty69 (i := (s : Int)) (by omega) (by omega)) ?_
    rw [Int.toNat_natCast]
    try simp only [pureE, pureT, Nat.zero_add, Nat.reduceAdd, Bool.not_false, Bool.not_true]
    have hcl := row_at (W0 := W0) (l := pt fb 162 [.slice (some ⟨b, 0, none⟩) n' cp] :: row 69 3 (.slice (some ⟨b, 0, none⟩) n' cp) n' (insC ((ys.take s).map (M.fix at_ many m) ++ ys.drop s)) :: l.eraseIdx i) (i := 1) insV_len rfl hx'
    refine run_lda ag69 ty69 rfl hcl ?_
    refine jumps_c ?_
    have next : ∀ c, (c = (ys.take (s + 1)).map (M.fix at_ many m) ++ ys.drop (s + 1)) → Run W0 (pt fb 162 [.slice (some ⟨b, 0, none⟩) n' cp] :: row 69 3 (.slice (some ⟨b, 0, none⟩) n' cp) n' (insC c) :: l.eraseIdx i)
        (S92_k2 (fun vs' w' => ∃ s', n' - s' < n' - s ∧ s' ≤ n' ∧ [Ptr fb, IV at_, IV many, .slice av m cv, IV n', IV (s' : Nat)] = vs' ∧ St W0 (pt fb 162 [.slice (some ⟨b, 0, none⟩) n' cp] :: row 69 3 (.slice (some ⟨b, 0, none⟩) n' cp) n' (insC ((ys.take s').map (M.fix at_ many m) ++ ys.drop s')) :: l.eraseIdx i) w')
          K pn (Ptr fb) (IV at_) (IV many) (.slice av m cv) (IV n') (IV s)) := by
      rintro c rfl
      unfold S92_k2
      try simp only [pureE, pureT, Nat.zero_add, Nat.reduceAdd, Bool.not_false, Bool.not_true]
      rw [wrN (x := (s : Int) + 1) (s + 1) (by omega) (by omega)]
      exact fun w hw => ⟨s + 1, by omega, by omega, rfl, hw⟩
    cases hj : M.jumps x
    · try simp only [pureE, pureT, Nat.zero_add, Nat.reduceAdd, Bool.not_false, Bool.not_true]
      refine next _ ?_
      rw [← hst]
      have : M.fix at_ many m x = x := by simp [M.fix, hj]
      rw [this, set_self hx']
    · try simp only [pureE, pureT, Nat.zero_add, Nat.reduceAdd, Bool.not_false, Bool.not_true]
      refine run_ld sc3 (hcl.fld (k := 1) rfl) ?_
      try simp only [pureE, pureT, Nat.zero_add, Nat.reduceAdd, Bool.not_false, Bool.not_true]
      cases hg : decide ((at_ : Int) < x.a)
      · try simp only [pureE, pureT, Nat.zero_add, Nat.reduceAdd, Bool.not_false, Bool.not_true]
        refine next _ ?_
        rw [← hst]
        have : M.fix at_ many m x = x := by simp [M.fix, hj, hg]
        rw [this, set_self hx']
      · try simp only [pureE, pureT, Nat.zero_add, Nat.reduceAdd, Bool.not_false, Bool.not_true]
        refine run_ld sc3 (hcl.fld (k := 1) rfl) ?_
        try simp only [pureE, pureT, Nat.zero_add, Nat.reduceAdd, Bool.not_false, Bool.not_true]
        rw [wrN (x := (at_ : Int) + m) (at_ + m) (by omega) (by omega)]
        refine run_st_row ty3 (i := 1) rfl rfl (by simp [Value.cells, Value.oneCell']) ?_ ?_
        · rw [flat_len insV_len]
          simp only [List.length_append, List.length_map, List.length_take, List.length_drop]
          omega
        refine Run.of (next _ hst) fun w hw => ?_
        have hf := flat_set (f := insV) insV_len (k := 1) (y := M.fix at_ many m x) (u := IV (max (M.w64 (M.w64 (x.a - many) + m)) ((at_ + m : Nat) : Int))) (by omega) (by simp [M.fix, hj, hg, insV]) hx'
        rw [insC, ← hf]
        exact hw
  · rw [dec_f (show ¬ (s : Int) < n' by omega)]
    try simp only [pureE, pureT, Nat.zero_add, Nat.reduceAdd, Bool.not_false, Bool.not_true]
    have hsn : s = n' := by omega
    have hfin : (ys.take s).map (M.fix at_ many m) ++ ys.drop s = M.replace at_ many by_ xs := by
      rw [List.take_of_length_le (by omega), List.drop_of_length_le (by omega), List.append_nil, M.replace, hys, hlen]
    rw [hfin]
    have hl' : (M.replace at_ many by_ xs).length = n' := by rw [M.replace, List.length_map, hys, hyl]
    rw [← hl']
    exact run_shut (ps := fun (v : Value) => [pt fb 162 [v], row 69 3 v (M.replace at_ many by_ xs).length (insC (M.replace at_ many by_ xs))]) l i _ hi h
end
end Go.Proofs.YtkonigmefmgepaaGreatDoor
