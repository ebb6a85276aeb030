/- Contracts: the folder's rules (own work). -/
import Derived.Test.YtkonigmefmgepaaGreatDoorWa
namespace Go.Proofs.YtkonigmefmgepaaGreatDoor
open Go.RowKit
set_option linter.unusedVariables false
set_option linter.unusedSimpArgs false

section
variable {W0 : World} {l : List As} {K : Value → C} {pn : Pn}

theorem free_c {i j fb at_ n : Nat} {v : Value} {xs : List M.Ins} (hi : l[i]? = some (pt fb 162 [v])) (hj : l[j]? = some (row 69 3 v n (insC xs))) (hn : n ≤ 4294967296) (ha : at_ ≤ 4294967296)
    (h : Run W0 l (K (.bool (M.free at_ xs)))) : Run W0 l (callS P 93 #[Ptr fb, IV at_] K pn) := by
  refine r93 ?_
  unfold S93
  refine run_row_rd j hj fun hrd => ?_
  have hxl : xs.length = n := rd_len insV_len (by omega) hrd
  obtain ⟨a, c, rfl, _, _, _⟩ := hrd.form
  refine run_box fun bb => ?_
  try simp only [pureE, pureT, Nat.zero_add, Nat.reduceAdd, Bool.not_false, Bool.not_true]
  refine run_draw (pt bb 3 [IV at_] :: l) (fun _ hw => hw) ?_
  refine take_ld sc3 (cl1 (i := 0) rfl rfl) ?_
  try simp only [pureE, pureT, Nat.zero_add, Nat.reduceAdd, Bool.not_false, Bool.not_true]
  refine take_ld sc36 (cl1 (i := i + 1) (by simpa using hi) rfl) ?_
  refine run_tk _ (fun w => pv_len un36) ?_
  try simp only [pureE, pureT, Nat.zero_add, Nat.reduceAdd, Bool.not_false, Bool.not_true]
  unfold M.free at h
  rw [hxl] at h
  by_cases hlt : at_ < n
  · rw [dec_t (show (at_ : Int) < n by omega)]
    rw [dec_t hlt] at h
    try simp only [pureE, pureT, Nat.zero_add, Nat.reduceAdd, Bool.not_false, Bool.not_true]
    refine take_ld sc36 (cl1 (i := i + 1) (by simpa using hi) rfl) ?_
    try simp only [pureE, pureT, Nat.zero_add, Nat.reduceAdd, Bool.not_false, Bool.not_true]
    refine contains_c (n := n) (xs := xs) (p := fun x => M.jumps x && x.a == (at_ : Int)) (hrd.mono fun _ hw => hw.tail) (by omega) (fun x K pn hx => freeF_c (i := 0) (T := 3) (b := bb) (at_ := (at_ : Int)) rfl x K pn hx) ?_
    try simp only [pureE, pureT, Nat.zero_add, Nat.reduceAdd, Bool.not_false, Bool.not_true]
    refine run_and (fun _ hw => hw) ?_
    exact run_drop h
  · rw [dec_f (show ¬ (at_ : Int) < n by omega)]
    rw [dec_f hlt] at h
    try simp only [pureE, pureT, Nat.zero_add, Nat.reduceAdd, Bool.not_false, Bool.not_true]
    refine run_and (fun _ hw => hw) ?_
    exact run_drop h

theorem push_c {n : Int} (h : Run W0 l (K (insA (M.push n)))) : Run W0 l (callS P 101 #[IV n] K pn) := by
  refine r101 ?_
  unfold S101
  refine run_alloc ty69 fun b => ?_
  refine run_nx (.agg #[IV 1, IV 0, IV n]) (fun w => by kernel_rfl) ?_
  refine run_st ty69 (i := 0) rfl rfl (by simp [Value.cells, Value.oneCell']) (by simp [Value.cells]) ?_
  refine run_cell ag69 ty69 (xs := [IV 1, IV 0, IV n]) rfl (cl_all (i := 0) rfl) ?_
  exact run_drop h

theorem insC_one (y : M.Ins) : insC [y] = insV y := by simp [insC]
theorem fold_open {fb : Nat} {xs : List M.Ins} {R : List As} {c : C} (h : ∀ v, Run W0 (pt fb 162 [v] :: row 69 3 v xs.length (insC xs) :: R) c) : Run W0 (foldA fb xs :: R) c :=
  run_open 0 rfl h
theorem fold_shut {fb n : Nat} {v : Value} {xs : List M.Ins} {R : List As} {c : C} (hn : n = xs.length) (h : Run W0 (foldA fb xs :: R) c) : Run W0 (pt fb 162 [v] :: row 69 3 v n (insC xs) :: R) c := by
  subst hn
  exact run_pack (ps := fun (v : Value) => [pt fb 162 [v], row 69 3 v xs.length (insC xs)]) v h

/-- A replacement by one instruction, and by none, amid a rule. -/
theorem replOne_c {fb bb at_ many : Nat} {v : Value} {xs : List M.Ins} {y : M.Ins} {X : As} {R : List As} (hn : xs.length ≤ 4294967296) (h0 : 0 < many) (hfit : at_ + many ≤ xs.length)
    (h : Run W0 (foldA fb (M.replace at_ many [y] xs) :: R) (K (.tuple #[]))) :
    Run W0 (pt bb 69 (insV y) :: X :: pt fb 162 [v] :: row 69 3 v xs.length (insC xs) :: R) (callS P 92 #[Ptr fb, IV at_, IV many, .slice (some ⟨bb, 0, none⟩) 1 1] K pn) := by
  refine run_to (pt fb 162 [v] :: row 69 3 v xs.length (insC xs) :: pt bb 69 (insC [y]) :: R) (fun w hw => ?_) ?_
  · have h1 : St W0 (pt fb 162 [v] :: pt bb 69 (insV y) :: X :: row 69 3 v xs.length (insC xs) :: R) w := hw.front 2
    have h2 : St W0 (row 69 3 v xs.length (insC xs) :: pt fb 162 [v] :: pt bb 69 (insV y) :: X :: R) w := h1.front 3
    have h3 : St W0 (pt fb 162 [v] :: row 69 3 v xs.length (insC xs) :: pt bb 69 (insV y) :: X :: R) w := h2.front 1
    rw [insC_one]
    exact h3.erase 3
  refine fold_shut rfl ?_
  refine replace_c (i := 0) (m := 1) (by_ := [y]) rfl ?_ hn h0 hfit (by omega) ?_
  · exact Rd.pt (i := 0) rfl 3 (by simp [insC, insV])
  · refine run_to (foldA fb (M.replace at_ many [y] xs) :: R) (fun w hw => ?_) h
    exact hw.erase 1
theorem replNone_c {fb at_ many : Nat} {v : Value} {xs : List M.Ins} {X : As} {R : List As} (hn : xs.length ≤ 4294967296) (h0 : 0 < many) (hfit : at_ + many ≤ xs.length)
    (h : Run W0 (foldA fb (M.replace at_ many [] xs) :: R) (K (.tuple #[]))) :
    Run W0 (X :: pt fb 162 [v] :: row 69 3 v xs.length (insC xs) :: R) (callS P 92 #[Ptr fb, IV at_, IV many, .slice none 0 0] K pn) := by
  refine run_drop ?_
  refine fold_shut rfl ?_
  exact replace_c (i := 0) (m := 0) (by_ := []) rfl Rd.nil hn h0 hfit (by omega) h

theorem fill_one (y : M.Ins) : Instr.fill (fun i => some (i * 3, 3)) ((Array.range (1 * 3)).map ((Value.agg #[IV 0, IV 0, IV 0]).cells[· % (Value.agg #[IV 0, IV 0, IV 0]).cells.size]!)) [(0, insA y)] = some (insV y).toArray := by kernel_rfl

theorem behind_c {fb at_ : Nat} {xs : List M.Ins} {p x : M.Ins} {R : List As} (hn : xs.length ≤ 4294967296) (hp : xs[at_]? = some p) (hx : xs[at_ + 1]? = some x)
    (ht : ∀ ys, M.behind at_ xs p.n x = some ys → Run W0 (foldA fb ys :: R) (K (.bool true)))
    (hf : M.behind at_ xs p.n x = none → Run W0 (foldA fb xs :: R) (K (.bool false))) :
    Run W0 (foldA fb xs :: R) (callS P 94 #[Ptr fb, IV at_] K pn) := by
  refine r94 ?_
  unfold S94
  refine fold_open fun v => ?_
  have hl1 := (List.getElem?_eq_some_iff.1 hx).1
  refine run_row_rd 1 rfl fun hrd => ?_
  refine run_draw (pt fb 162 [v] :: row 69 3 v xs.length (insC xs) :: R) (fun _ hw => hw) ?_
  try simp only [pureE, pureT, Nat.zero_add, Nat.reduceAdd, Bool.not_false, Bool.not_true]
  refine take_ld sc36 (cl1 (i := 0) rfl rfl) ?_
  refine run_rd_idxP un36 ty69 insV_len (by omega) hrd at_ hp fun b o hc => ?_
  try simp only [pureE, pureT, Nat.zero_add, Nat.reduceAdd, Bool.not_false, Bool.not_true]
  refine take_ld sc2 (hc.fld (k := 2) rfl) ?_
  refine take_ld sc36 (cl1 (i := 0) rfl rfl) ?_
  try simp only [pureE, pureT, Nat.zero_add, Nat.reduceAdd, Bool.not_false, Bool.not_true]
  rw [wrN (x := (at_ : Int) + 1) (at_ + 1) (by omega) (by omega)]
  refine run_rd_idxP un36 ty69 insV_len (by omega) hrd (at_ + 1) hx fun b2 o2 hc2 => ?_
  refine take_lda ag69 ty69 rfl hc2 ?_
  refine run_alloc ty69 fun b6 => ?_
  refine run_and (fun _ hw => hw.tail) ?_
  refine run_st ty69 (i := 0) rfl rfl (by simp [insV, Value.cells, Value.oneCell']) (by simp [Value.cells]) ?_
  refine run_and (fun _ hw => hw.tail) ?_
  refine run_to (pt b6 69 (insV x) :: pt fb 162 [v] :: row 69 3 v xs.length (insC xs) :: R) (fun w hw => hw) ?_
  unfold M.behind at ht hf
  try simp only [pureE, pureT, Nat.zero_add, Nat.reduceAdd, Bool.not_false, Bool.not_true]
  refine run_ld sc3 (cl1 (i := 0) rfl rfl) ?_
  try simp only [pureE, pureT, Nat.zero_add, Nat.reduceAdd, Bool.not_false, Bool.not_true]
  cases h1 : x.op == 4 || x.op == 5
  case true =>
    rw [if_pos h1] at ht
    have go : Run W0 (pt b6 69 (insV x) :: pt fb 162 [v] :: row 69 3 v xs.length (insC xs) :: R)
      (nextS P (V (Instr.loadAt 3 (.pointer (some ⟨b6, 0, none⟩)))) (fun x39 => callS P 100 #[x39, IV p.n, IV 0] (fun x41 => nextS P (V (Instr.extract x41 0)) (fun x42 => nextS P (V (Instr.extract x41 1)) (fun x43 => callS P 101 #[x42] (fun x47 => nextS P (V (Instr.buildSlice 36 1 #[(0, x47)])) (fun x48 => callS P 92 #[Ptr fb, IV at_, IV (2 : Nat), x48] (fun _ => K (.bool true)) pn) pn) pn) pn) pn) pn) pn) := by
      refine run_ld sc3 (cl1 (i := 0) rfl rfl) ?_
      try simp only [pureE, pureT, Nat.zero_add, Nat.reduceAdd, Bool.not_false, Bool.not_true]
      refine do_c ?_
      try simp only [pureE, pureT, Nat.zero_add, Nat.reduceAdd, Bool.not_false, Bool.not_true]
      refine push_c ?_
      refine run_buildSlice (insV (M.push (M.doI x.op p.n 0).1)) un36 ty69 (by omega) (by omega) (fill_one _) fun bb => ?_
      exact replOne_c hn (by omega) (by omega) (ht _ rfl)
    cases h4 : x.op == 4
    · try simp only [pureE, pureT, Nat.zero_add, Nat.reduceAdd, Bool.not_false, Bool.not_true]
      refine run_ld sc3 (cl1 (i := 0) rfl rfl) ?_
      try simp only [pureE, pureT, Nat.zero_add, Nat.reduceAdd, Bool.not_false, Bool.not_true]
      have h5 : (x.op == 5) = true := by simpa [h4] using h1
      rw [h5]
      try simp only [pureE, pureT, Nat.zero_add, Nat.reduceAdd, Bool.not_false, Bool.not_true]
      exact go
    · try simp only [pureE, pureT, Nat.zero_add, Nat.reduceAdd, Bool.not_false, Bool.not_true]
      exact go
  rw [if_neg (by simp [h1])] at ht hf
  have h4 : (x.op == 4) = false := by cases h : x.op == 4 <;> simp_all
  have h5 : (x.op == 5) = false := by cases h : x.op == 5 <;> simp_all
  rw [h4]
  try simp only [pureE, pureT, Nat.zero_add, Nat.reduceAdd, Bool.not_false, Bool.not_true]
  refine run_ld sc3 (cl1 (i := 0) rfl rfl) ?_
  try simp only [pureE, pureT, Nat.zero_add, Nat.reduceAdd, Bool.not_false, Bool.not_true]
  rw [h5]
  try simp only [pureE, pureT, Nat.zero_add, Nat.reduceAdd, Bool.not_false, Bool.not_true]
  refine run_ld sc3 (cl1 (i := 0) rfl rfl) ?_
  try simp only [pureE, pureT, Nat.zero_add, Nat.reduceAdd, Bool.not_false, Bool.not_true]
  cases h16 : x.op == 16
  case true =>
    try simp only [pureE, pureT, Nat.zero_add, Nat.reduceAdd, Bool.not_false, Bool.not_true]
    simp only [h16, Bool.true_and, if_true] at ht hf
    cases h0 : p.n == 0
    · simp only [h0, Bool.false_eq_true, if_false] at ht hf
      try simp only [pureE, pureT, Nat.zero_add, Nat.reduceAdd, Bool.not_false, Bool.not_true]
      refine run_ld sc3 (cl1 (i := 0) rfl rfl) ?_
      try simp only [pureE, pureT, Nat.zero_add, Nat.reduceAdd, Bool.not_false, Bool.not_true]
      rw [h16]
      try simp only [pureE, pureT, Nat.zero_add, Nat.reduceAdd, Bool.not_false, Bool.not_true]
      exact replNone_c (many := 2) hn (by omega) (by omega) (ht _ rfl)
    · simp only [h0, if_true] at ht hf
      try simp only [pureE, pureT, Nat.zero_add, Nat.reduceAdd, Bool.not_false, Bool.not_true]
      refine run_ld sc3 (cl1 (i := 0) rfl rfl) ?_
      try simp only [pureE, pureT, Nat.zero_add, Nat.reduceAdd, Bool.not_false, Bool.not_true]
      refine run_nx (insA ⟨15, x.a, 0⟩) (fun w => by kernel_rfl) ?_
      refine run_buildSlice (insV ⟨15, x.a, 0⟩) un36 ty69 (by omega) (by omega) (fill_one _) fun bb => ?_
      exact replOne_c (many := 2) hn (by omega) (by omega) (ht _ rfl)
  simp only [h16, Bool.false_and, Bool.false_eq_true, if_false] at ht hf
  try simp only [pureE, pureT, Nat.zero_add, Nat.reduceAdd, Bool.not_false, Bool.not_true]
  refine run_ld sc3 (cl1 (i := 0) rfl rfl) ?_
  try simp only [pureE, pureT, Nat.zero_add, Nat.reduceAdd, Bool.not_false, Bool.not_true]
  rw [h16]
  try simp only [pureE, pureT, Nat.zero_add, Nat.reduceAdd, Bool.not_false, Bool.not_true]
  refine run_ld sc3 (cl1 (i := 0) rfl rfl) ?_
  try simp only [pureE, pureT, Nat.zero_add, Nat.reduceAdd, Bool.not_false, Bool.not_true]
  have shut : ∀ {c : C}, Run W0 (foldA fb xs :: R) c → Run W0 (pt b6 69 (insV x) :: pt fb 162 [v] :: row 69 3 v xs.length (insC xs) :: R) c := fun h => run_drop (fold_shut rfl h)
  cases hne : x.op != 1
  case true =>
    simp only [hne, Bool.true_or, if_true] at hf
    try simp only [pureE, pureT, Nat.zero_add, Nat.reduceAdd, Bool.not_false, Bool.not_true]
    exact shut (hf trivial)
  simp only [hne, Bool.false_or] at ht hf
  try simp only [pureE, pureT, Nat.zero_add, Nat.reduceAdd, Bool.not_false, Bool.not_true]
  rw [wrN (x := (at_ : Int) + 2) (at_ + 2) (by omega) (by omega)]
  refine free_c (i := 1) (j := 2) rfl rfl hn (by omega) ?_
  try simp only [pureE, pureT, Nat.zero_add, Nat.reduceAdd, Bool.not_false, Bool.not_true]
  cases hfr : M.free (at_ + 2) xs
  · simp only [hfr, Bool.not_false, if_true] at hf
    try simp only [pureE, pureT, Nat.zero_add, Nat.reduceAdd, Bool.not_false, Bool.not_true]
    exact shut (hf trivial)
  simp only [hfr, Bool.not_true, Bool.false_eq_true, if_false] at ht hf
  try simp only [pureE, pureT, Nat.zero_add, Nat.reduceAdd, Bool.not_false, Bool.not_true]
  have hl2 : at_ + 2 < xs.length := by
    unfold M.free at hfr
    simp only [Bool.and_eq_true, decide_eq_true_eq] at hfr
    exact hfr.1
  obtain ⟨y, hy⟩ : ∃ y, xs[at_ + 2]? = some y := ⟨_, List.getElem?_eq_getElem hl2⟩
  simp only [hy] at ht hf
  refine run_ld sc36 (cl1 (i := 1) rfl rfl) ?_
  refine run_row_rd 2 rfl fun hrd2 => ?_
  refine run_rd_idx un36 ty69 insV_len (by omega) hrd2 (at_ + 2) hy fun b3 o3 hc3 => ?_
  try simp only [pureE, pureT, Nat.zero_add, Nat.reduceAdd, Bool.not_false, Bool.not_true]
  refine run_ld sc3 (hc3.fld (k := 0) rfl) ?_
  try simp only [pureE, pureT, Nat.zero_add, Nat.reduceAdd, Bool.not_false, Bool.not_true]
  cases h6 : decide (y.op < 6)
  case true =>
    simp only [h6, Bool.true_or, if_true] at hf
    try simp only [pureE, pureT, Nat.zero_add, Nat.reduceAdd, Bool.not_false, Bool.not_true]
    exact shut (hf trivial)
  simp only [h6, Bool.false_or] at ht hf
  try simp only [pureE, pureT, Nat.zero_add, Nat.reduceAdd, Bool.not_false, Bool.not_true]
  cases h14 : decide (14 < y.op)
  case true =>
    simp only [h14, if_true] at hf
    try simp only [pureE, pureT, Nat.zero_add, Nat.reduceAdd, Bool.not_false, Bool.not_true]
    exact shut (hf trivial)
  simp only [h14, Bool.false_eq_true, if_false] at ht hf
  try simp only [pureE, pureT, Nat.zero_add, Nat.reduceAdd, Bool.not_false, Bool.not_true]
  refine run_ld sc2 (cl1 (i := 0) rfl rfl) ?_
  try simp only [pureE, pureT, Nat.zero_add, Nat.reduceAdd, Bool.not_false, Bool.not_true]
  refine do_c ?_
  try simp only [pureE, pureT, Nat.zero_add, Nat.reduceAdd, Bool.not_false, Bool.not_true]
  unfold S94_k1
  cases hok : (M.doI y.op p.n x.n).2
  · simp only [hok, Bool.false_eq_true, if_false] at hf
    try simp only [pureE, pureT, Nat.zero_add, Nat.reduceAdd, Bool.not_false, Bool.not_true]
    exact shut (hf trivial)
  simp only [hok, if_true] at ht
  try simp only [pureE, pureT, Nat.zero_add, Nat.reduceAdd, Bool.not_false, Bool.not_true]
  refine push_c ?_
  refine run_buildSlice (insV (M.push (M.doI y.op p.n x.n).1)) un36 ty69 (by omega) (by omega) (fill_one _) fun bb => ?_
  exact replOne_c (many := 3) hn (by omega) (by omega) (ht _ rfl)

theorem rule_c {fb at_ : Nat} {xs : List M.Ins} {R : List As} (hn : xs.length ≤ 4294967296) (hl : at_ < xs.length)
    (ht : ∀ ys, M.rule at_ xs = some ys → Run W0 (foldA fb ys :: R) (K (.bool true)))
    (hf : M.rule at_ xs = none → Run W0 (foldA fb xs :: R) (K (.bool false))) :
    Run W0 (foldA fb xs :: R) (callS P 77 #[Ptr fb, IV at_] K pn) := by
  refine r77 ?_
  unfold S77
  refine fold_open fun v => ?_
  obtain ⟨p, hp⟩ : ∃ p, xs[at_]? = some p := ⟨_, List.getElem?_eq_getElem hl⟩
  refine run_row_rd 1 rfl fun hrd => ?_
  unfold M.rule at ht hf
  simp only [hp] at ht hf
  try simp only [pureE, pureT, Nat.zero_add, Nat.reduceAdd, Bool.not_false, Bool.not_true]
  refine run_ld sc36 (cl1 (i := 0) rfl rfl) ?_
  refine run_rd_idx un36 ty69 insV_len (by omega) hrd at_ hp fun b o hc => ?_
  refine run_lda ag69 ty69 rfl hc ?_
  refine run_alloc ty69 fun b6 => ?_
  refine run_st ty69 (i := 0) rfl rfl (by simp [insV, Value.cells, Value.oneCell']) (by simp [Value.cells]) ?_
  refine run_to (pt b6 69 (insV p) :: pt fb 162 [v] :: row 69 3 v xs.length (insC xs) :: R) (fun w hw => hw) ?_
  have shut : ∀ {c : C}, Run W0 (foldA fb xs :: R) c → Run W0 (pt b6 69 (insV p) :: pt fb 162 [v] :: row 69 3 v xs.length (insC xs) :: R) c := fun h => run_drop (fold_shut rfl h)
  try simp only [pureE, pureT, Nat.zero_add, Nat.reduceAdd, Bool.not_false, Bool.not_true]
  refine run_ld sc3 (cl1 (i := 0) rfl rfl) ?_
  try simp only [pureE, pureT, Nat.zero_add, Nat.reduceAdd, Bool.not_false, Bool.not_true]
  have rest : (p.op == 15 && p.a == ((at_ + 1 : Nat) : Int)) = false → Run W0 (pt b6 69 (insV p) :: pt fb 162 [v] :: row 69 3 v xs.length (insC xs) :: R)
      (nextS P (V (Instr.loadAt 3 (.pointer (some ⟨b6, 0, none⟩)))) (fun x29 => nextS P (binN .eql 3 (.tmp 29) (.const (IV 1)) x29 (IV 1)) (fun x30 =>
        grdS x30 true (fun K => K (Ptr fb)) fun x32 => grdS x30 true (fun K => K (IV at_)) fun x33 => grdS x30 true (fun K => nextS P (binN .add 3 (.tmp 33) (.const (IV 1)) x33 (IV 1)) K pn) fun x34 =>
        grdS x30 true (fun K => callS P 93 #[x32, x34] K pn) fun x35 => nextS P (pickN x30 x35 (Value.bool false)) (fun x36 => condS x36 (callS P 94 #[Ptr fb, IV at_] (fun x39 => K x39) pn) (K (Value.bool false))) pn) pn) pn) := by
    intro h15
    simp only [h15, Bool.false_eq_true, if_false] at ht hf
    refine run_ld sc3 (cl1 (i := 0) rfl rfl) ?_
    try simp only [pureE, pureT, Nat.zero_add, Nat.reduceAdd, Bool.not_false, Bool.not_true]
    cases h1 : p.op == 1
    · simp only [h1, Bool.false_and, Bool.false_eq_true, if_false] at hf
      try simp only [pureE, pureT, Nat.zero_add, Nat.reduceAdd, Bool.not_false, Bool.not_true]
      exact shut (hf trivial)
    simp only [h1, Bool.true_and] at ht hf
    try simp only [pureE, pureT, Nat.zero_add, Nat.reduceAdd, Bool.not_false, Bool.not_true]
    rw [wrN (x := (at_ : Int) + 1) (at_ + 1) (by omega) (by omega)]
    refine free_c (i := 1) (j := 2) rfl rfl hn (by omega) ?_
    try simp only [pureE, pureT, Nat.zero_add, Nat.reduceAdd, Bool.not_false, Bool.not_true]
    cases hfr : M.free (at_ + 1) xs
    · simp only [hfr, Bool.false_eq_true, if_false] at hf
      try simp only [pureE, pureT, Nat.zero_add, Nat.reduceAdd, Bool.not_false, Bool.not_true]
      exact shut (hf trivial)
    simp only [hfr, if_true] at ht hf
    try simp only [pureE, pureT, Nat.zero_add, Nat.reduceAdd, Bool.not_false, Bool.not_true]
    have hl2 : at_ + 1 < xs.length := by
      unfold M.free at hfr
      simp only [Bool.and_eq_true, decide_eq_true_eq] at hfr
      exact hfr.1
    obtain ⟨y, hy⟩ : ∃ y, xs[at_ + 1]? = some y := ⟨_, List.getElem?_eq_getElem hl2⟩
    simp only [hy] at ht hf
    exact shut (behind_c hn hp hy ht hf)
  cases h15 : p.op == 15
  · try simp only [pureE, pureT, Nat.zero_add, Nat.reduceAdd, Bool.not_false, Bool.not_true]
    exact rest (by rw [h15]; rfl)
  · try simp only [pureE, pureT, Nat.zero_add, Nat.reduceAdd, Bool.not_false, Bool.not_true]
    refine run_ld sc3 (cl1 (i := 0) rfl rfl) ?_
    try simp only [pureE, pureT, Nat.zero_add, Nat.reduceAdd, Bool.not_false, Bool.not_true]
    rw [wrN (x := (at_ : Int) + 1) (at_ + 1) (by omega) (by omega)]
    cases ha : p.a == ((at_ + 1 : Nat) : Int)
    · try simp only [pureE, pureT, Nat.zero_add, Nat.reduceAdd, Bool.not_false, Bool.not_true]
      exact rest (by rw [h15, ha]; rfl)
    · simp only [h15, ha, Bool.true_and, if_true] at ht
      try simp only [pureE, pureT, Nat.zero_add, Nat.reduceAdd, Bool.not_false, Bool.not_true]
      exact replNone_c (many := 1) hn (by omega) (by omega) (ht _ rfl)
end
end Go.Proofs.YtkonigmefmgepaaGreatDoor

/- Contracts: Fold, and what is made of it (own work). -/
namespace Go.Proofs.YtkonigmefmgepaaGreatDoor
open Go.RowKit
set_option linter.unusedVariables false
set_option linter.unusedSimpArgs false

section
variable {W0 : World} {l : List As} {K : Value → C} {pn : Pn}

theorem fold_c {v : Value} {n : Nat} {xs : List M.Ins} (hr : Rd W0 l 3 v n (insC xs)) (hn : n ≤ 4294967296)
    (h : ∀ v', Run W0 (row 69 3 v' (M.fold xs).length (insC (M.fold xs)) :: l) (K v')) : Run W0 l (callS P 65 #[v] K pn) := by
  refine r65 ?_
  unfold S65
  have hl : xs.length = n := rd_len insV_len (by omega) hr
  refine cloneIns_c hr (flat_one insV_one _) hn fun v1 _ => ?_
  refine run_row_rd 0 rfl fun hrd0 => ?_
  obtain ⟨a1, c1, hv1, _, _, _⟩ := hrd0.form
  subst hv1
  refine run_nx (.agg #[.slice a1 n c1]) (fun w => by kernel_rfl) ?_
  refine run_box fun fb => ?_
  refine run_to (pt fb 162 [.slice a1 n c1] :: row 69 3 (.slice a1 n c1) xs.length (insC xs) :: l) (fun w hw => by rw [hl]; exact hw) ?_
  refine fold_shut rfl ?_
  refine run_loop (Inv := fun ys : List M.Ins => M.fold ys = M.fold xs ∧ ys.length ≤ n) (J := fun ys => [Ptr fb]) (H := fun ys => foldA fb ys :: l) (μ := fun ys => ys.length) xs ⟨rfl, by omega⟩ rfl (fun _ hw => hw) ?_
  rintro ys e ⟨hys, hyn⟩ he
  simp only [List.map_cons, List.map_nil, List.cons.injEq, and_true] at he
  unfold S65_l1
  simp only [he]
  try simp only [pureE, pureT, Nat.zero_add, Nat.reduceAdd, Bool.not_false, Bool.not_true]
  refine fold_open fun v2 => ?_
  refine run_ld sc36 (cl1 (i := 0) rfl rfl) ?_
  refine run_row_rd 1 rfl fun hrd => ?_
  obtain ⟨a2, c2, hv2, _, _, _⟩ := hrd.form
  subst hv2
  try simp only [pureE, pureT, Nat.zero_add, Nat.reduceAdd, Bool.not_false, Bool.not_true]
  refine fold_shut rfl ?_
  refine run_loop (Inv := fun s : Nat => s ≤ ys.length ∧ ∀ j, j < s → M.rule j ys = none) (J := fun s => [Ptr fb, IV ys.length, IV s]) (H := fun s => foldA fb ys :: l) (μ := fun s => ys.length - s) 0 ⟨by omega, fun j hj => by omega⟩ rfl (fun _ hw => hw) ?_
  rintro s e2 ⟨hs, hno⟩ he2
  simp only [List.map_cons, List.map_nil, List.cons.injEq, and_true] at he2
  obtain ⟨e3, e13, e14⟩ := he2
  unfold S65_l2
  simp only [e3, e13, e14]
  try simp only [pureE, pureT, Nat.zero_add, Nat.reduceAdd, Bool.not_false, Bool.not_true]
  have hsk := M.firstR_skip (xs := ys) (f := ys.length) hs hno
  by_cases hlt : s < ys.length
  · rw [dec_t (show (s : Int) < (ys.length : Int) by omega)]
    try simp only [pureE, pureT, Nat.zero_add, Nat.reduceAdd, Bool.not_false, Bool.not_true]
    refine rule_c (by omega) hlt (fun zs hz => ?_) fun hz => ?_
    · try simp only [pureE, pureT, Nat.zero_add, Nat.reduceAdd, Bool.not_false, Bool.not_true]
      have hf : M.firstR ys ys.length 0 = some zs := by
        rw [hsk]
        obtain ⟨d, hd⟩ : ∃ d, ys.length - s = d + 1 := ⟨ys.length - s - 1, by omega⟩
        rw [hd, M.firstR, hz]
      have hlz := M.rule_len hz
      exact fun w hw => ⟨zs, hlz, ⟨(M.fold_some hf).symm.trans hys, by omega⟩, trivial, hw⟩
    · try simp only [pureE, pureT, Nat.zero_add, Nat.reduceAdd, Bool.not_false, Bool.not_true]
      refine run_nxt (s + 1) ⟨by omega, fun j hj => ?_⟩ (by omega) ?_ fun _ hw => hw
      · rcases Nat.lt_or_ge j s with h1 | h1
        · exact hno j h1
        · rw [show j = s by omega]; exact hz
      · rw [wrN (x := (s : Int) + 1) (s + 1) (by omega) (by omega)]
  · rw [dec_f (show ¬ (s : Int) < (ys.length : Int) by omega)]
    try simp only [pureE, pureT, Nat.zero_add, Nat.reduceAdd, Bool.not_false, Bool.not_true]
    have hs0 : ys.length - s = 0 := by omega
    rw [hs0] at hsk
    have hfin : M.fold xs = ys := hys.symm.trans (M.fold_none hsk)
    refine fold_open fun v3 => ?_
    refine run_ld sc36 (cl1 (i := 0) rfl rfl) ?_
    rw [hfin] at h
    exact run_drop (h v3)
end
end Go.Proofs.YtkonigmefmgepaaGreatDoor

/- Contracts: a function for a number (own work). -/
namespace Go.Proofs.YtkonigmefmgepaaGreatDoor
open Go.RowKit
set_option linter.unusedVariables false
set_option linter.unusedSimpArgs false

def fnV (f : M.Fn) (v : Value) : List Value := [.string f.name, IV f.params, IV f.vars, IV f.arrays, v]
abbrev fnA (f : M.Fn) (v : Value) : Value := .agg #[.string f.name, IV f.params, IV f.vars, IV f.arrays, v]

section
variable {W0 : World} {l : List As} {K : Value → C} {pn : Pn}

theorem plain_c {f : M.Fn} {v : Value} {n : Nat} (hr : Rd W0 l 3 v n (insC f.l)) (hn : n ≤ 4294967296)
    (h : ∀ v', Run W0 (row 69 3 v' (M.fold f.l).length (insC (M.fold f.l)) :: l) (K v')) : Run W0 l (callS P 54 #[fnA f v] K pn) := by
  refine r54 ?_
  unfold S54
  refine run_box fun b => ?_
  try simp only [pureE, pureT, Nat.zero_add, Nat.reduceAdd, Bool.not_false, Bool.not_true]
  refine run_ld sc36 (cl1 (i := 0) rfl rfl) ?_
  refine fold_c (hr.mono fun _ hw => hw.tail) hn fun v' => ?_
  exact run_erase 1 (h v')

theorem fixed_c {f : M.Fn} {v : Value} {n : Nat} {p : Int} (hr : Rd W0 l 3 v n (insC f.l)) (hn : n ≤ 4294967296)
    (h : Run W0 l (K (.bool (M.fixed p f.params f.l)))) : Run W0 l (callS P 64 #[fnA f v, IV p] K pn) := by
  refine r64 ?_
  unfold S64
  unfold M.fixed at h
  refine run_box fun b => ?_
  refine run_box fun b2 => ?_
  refine run_ld sc3 (cl1 (i := 0) rfl rfl) ?_
  try simp only [pureE, pureT, Nat.zero_add, Nat.reduceAdd, Bool.not_false, Bool.not_true]
  cases h0 : decide (0 ≤ p)
  · rw [h0] at h
    try simp only [pureE, pureT, Nat.zero_add, Nat.reduceAdd, Bool.not_false, Bool.not_true]
    exact run_drop (run_drop h)
  rw [h0] at h
  try simp only [pureE, pureT, Nat.zero_add, Nat.reduceAdd, Bool.not_false, Bool.not_true]
  refine run_ld sc3 (cl1 (i := 0) rfl rfl) ?_
  try simp only [pureE, pureT, Nat.zero_add, Nat.reduceAdd, Bool.not_false, Bool.not_true]
  refine run_ld sc3 (cl1 (i := 1) rfl rfl) ?_
  try simp only [pureE, pureT, Nat.zero_add, Nat.reduceAdd, Bool.not_false, Bool.not_true]
  cases h1 : decide (p < f.params)
  · rw [h1] at h
    try simp only [pureE, pureT, Nat.zero_add, Nat.reduceAdd, Bool.not_false, Bool.not_true]
    exact run_drop (run_drop h)
  rw [h1] at h
  try simp only [pureE, pureT, Nat.zero_add, Nat.reduceAdd, Bool.not_false, Bool.not_true]
  refine run_ld sc36 (cl1 (i := 1) rfl rfl) ?_
  try simp only [pureE, pureT, Nat.zero_add, Nat.reduceAdd, Bool.not_false, Bool.not_true]
  refine contains_c (p := fun x => M.sets x p) (hr.mono fun _ hw => hw.tail.tail) hn (fun x K pn hx => fixF_c (i := 0) (T := 3) (b := b2) rfl x K pn hx) ?_
  try simp only [pureE, pureT, Nat.zero_add, Nat.reduceAdd, Bool.not_false, Bool.not_true]
  exact run_drop (run_drop h)

theorem for_c {f : M.Fn} {v : Value} {n : Nat} {p num : Int} (hr : Rd W0 l 3 v n (insC f.l)) (hn : n ≤ 4294967296)
    (h : ∀ v', Run W0 (row 69 3 v' (M.spec p num f.params f.l).length (insC (M.spec p num f.params f.l)) :: l) (K v')) : Run W0 l (callS P 53 #[fnA f v, IV p, IV num] K pn) := by
  refine r53 ?_
  unfold S53
  have hl : f.l.length = n := rd_len insV_len (by omega) hr
  refine run_box fun b => ?_
  refine run_lda ag59 ty59 (xs := fnV f v) rfl (cl_all (i := 0) rfl) ?_
  refine fixed_c (hr.mono fun _ hw => hw.tail) hn ?_
  unfold M.spec at h
  cases hfx : M.fixed p f.params f.l
  · rw [hfx] at h
    try simp only [pureE, pureT, Nat.zero_add, Nat.reduceAdd, Bool.not_false, Bool.not_true]
    refine run_lda ag59 ty59 (xs := fnV f v) rfl (cl_all (i := 0) rfl) ?_
    refine plain_c (hr.mono fun _ hw => hw.tail) hn fun v' => ?_
    exact run_erase 1 (h v')
  rw [hfx, if_pos rfl] at h
  try simp only [pureE, pureT, Nat.zero_add, Nat.reduceAdd, Bool.not_false, Bool.not_true]
  refine run_ld sc36 (cl1 (i := 0) rfl rfl) ?_
  refine cloneIns_c (hr.mono fun _ hw => hw.tail) (flat_one insV_one _) hn fun v1 _ => ?_
  refine run_row_rd 0 rfl fun hrd => ?_
  obtain ⟨a1, c1, hv1, _, _, _⟩ := hrd.form
  subst hv1
  try simp only [pureE, pureT, Nat.zero_add, Nat.reduceAdd, Bool.not_false, Bool.not_true]
  refine run_loop (Inv := fun s : Nat => s ≤ n) (J := fun s => [IV p, IV num, .slice a1 n c1, .slice a1 n c1, IV n, IV s])
    (H := fun s => row 69 3 (.slice a1 n c1) n (insC ((f.l.take s).map (M.sub p num) ++ f.l.drop s)) :: l) (μ := fun s => n - s) 0 (by omega) rfl (fun w hw => ?_) ?_
  · have := hw.erase 1
    exact this
  intro s e hs he
  simp only [List.map_cons, List.map_nil, List.cons.injEq, and_true] at he
  obtain ⟨e1, e2, e7, e19, e20, e21⟩ := he
  unfold S53_l1
  simp only [e1, e2, e7, e19, e20, e21]
  try simp only [pureE, pureT, Nat.zero_add, Nat.reduceAdd, Bool.not_false, Bool.not_true]
  by_cases hlt : s < n
  · rw [dec_t (show (s : Int) < n by omega)]
    try simp only [pureE, pureT, Nat.zero_add, Nat.reduceAdd, Bool.not_false, Bool.not_true]
    obtain ⟨x, hx⟩ : ∃ x, f.l[s]? = some x := ⟨_, List.getElem?_eq_getElem (by omega)⟩
    have hx' := map_at (M.sub p num) hx
    have hst := map_step (M.sub p num) hx
    have next : ∀ c, (c = (f.l.take (s + 1)).map (M.sub p num) ++ f.l.drop (s + 1)) → Run W0 (row 69 3 (.slice a1 n c1) n (insC c) :: l)
        (S53_k2 (fun vs' w' => ∃ s', n - s' < n - s ∧ s' ≤ n ∧ [IV p, IV num, .slice a1 n c1, .slice a1 n c1, IV n, IV (s' : Nat)] = vs' ∧ St W0 (row 69 3 (.slice a1 n c1) n (insC ((f.l.take s').map (M.sub p num) ++ f.l.drop s')) :: l) w')
          K pn (IV p) (IV num) (.slice a1 n c1) (.slice a1 n c1) (IV n) (IV s)) := by
      rintro c rfl
      unfold S53_k2
      try simp only [pureE, pureT, Nat.zero_add, Nat.reduceAdd, Bool.not_false, Bool.not_true]
      rw [wrN (x := (s : Int) + 1) (s + 1) (by omega) (by omega)]
      exact fun w hw => ⟨s + 1, by omega, by omega, rfl, hw⟩
    refine run_row_rd 0 rfl fun hrd1 => ?_
    refine run_rd_idx un36 ty69 insV_len (by omega) hrd1 s hx' fun b3 o3 hc3 => ?_
    refine run_lda ag69 ty69 rfl hc3 ?_
    refine run_alloc ty69 fun b9 => ?_
    refine run_st ty69 (i := 0) rfl rfl (by simp [insV, Value.cells, Value.oneCell']) (by simp [Value.cells]) ?_
    refine run_to (pt b9 69 (insV x) :: row 69 3 (.slice a1 n c1) n (insC ((f.l.take s).map (M.sub p num) ++ f.l.drop s)) :: l) (fun w hw => hw) ?_
    try simp only [pureE, pureT, Nat.zero_add, Nat.reduceAdd, Bool.not_false, Bool.not_true]
    refine run_ld sc3 (cl1 (i := 0) rfl rfl) ?_
    try simp only [pureE, pureT, Nat.zero_add, Nat.reduceAdd, Bool.not_false, Bool.not_true]
    cases h2 : x.op == 2
    · try simp only [pureE, pureT, Nat.zero_add, Nat.reduceAdd, Bool.not_false, Bool.not_true]
      refine run_drop (next _ ?_)
      rw [← hst]
      have : M.sub p num x = x := by simp [M.sub, h2]
      rw [this, set_self hx']
    try simp only [pureE, pureT, Nat.zero_add, Nat.reduceAdd, Bool.not_false, Bool.not_true]
    refine run_ld sc3 (cl1 (i := 0) rfl rfl) ?_
    try simp only [pureE, pureT, Nat.zero_add, Nat.reduceAdd, Bool.not_false, Bool.not_true]
    cases ha : x.a == p
    · try simp only [pureE, pureT, Nat.zero_add, Nat.reduceAdd, Bool.not_false, Bool.not_true]
      refine run_drop (next _ ?_)
      rw [← hst]
      have : M.sub p num x = x := by simp [M.sub, h2, ha]
      rw [this, set_self hx']
    try simp only [pureE, pureT, Nat.zero_add, Nat.reduceAdd, Bool.not_false, Bool.not_true]
    refine run_drop ?_
    refine run_nx (insA ⟨1, 0, num⟩) (fun w => by kernel_rfl) ?_
    refine run_row_cases 0 rfl (fun _ h2 _ => absurd h2 (by omega)) fun b cp hv hnc hcm _ => ?_
    simp only [Value.slice.injEq] at hv
    obtain ⟨rfl, _, rfl⟩ := hv
    refine run_nx _ (fun w => pv_idx un36 ty69 (i := (s : Int)) (by omega) (by omega)) ?_
    rw [Int.toNat_natCast, Nat.zero_add]
    refine run_st_row ty69 (i := 0) rfl rfl (by simp [Value.cells, Value.oneCell']) ?_ ?_
    · rw [flat_len insV_len]
      simp only [List.length_append, List.length_map, List.length_take, List.length_drop]
      omega
    refine Run.of (next _ hst) fun w hw => ?_
    have hf := flat_splice1 (f := insV) insV_len ((f.l.take s).map (M.sub p num) ++ f.l.drop s) (M.sub p num x) (k := s) (by simp only [List.length_append, List.length_map, List.length_take, List.length_drop]; omega)
    have hsub : M.sub p num x = ⟨1, 0, num⟩ := by simp [M.sub, h2, ha]
    rw [insC, ← hf, hsub]
    exact hw
  · rw [dec_f (show ¬ (s : Int) < n by omega)]
    try simp only [pureE, pureT, Nat.zero_add, Nat.reduceAdd, Bool.not_false, Bool.not_true]
    have hfin : (f.l.take s).map (M.sub p num) ++ f.l.drop s = f.l.map (M.sub p num) := by
      rw [List.take_of_length_le (by omega), List.drop_of_length_le (by omega), List.append_nil]
    rw [hfin]
    refine run_row_rd 0 rfl fun hrd1 => ?_
    refine fold_c hrd1 (by omega) fun v' => ?_
    exact run_erase 1 (h v')
end
end Go.Proofs.YtkonigmefmgepaaGreatDoor

/- Contracts: rows of whole numbers (own work). -/
namespace Go.Proofs.YtkonigmefmgepaaGreatDoor
open Go.RowKit
set_option linter.unusedVariables false
set_option linter.unusedSimpArgs false

abbrev numV (x : Int) : List Value := [IV x]
theorem numV_len (x : Int) : (numV x).length = 1 := rfl
theorem numV_one (x : Int) : ∀ u ∈ numV x, u.oneCell' = true := by
  intro u hu
  simp only [numV, List.mem_singleton] at hu
  subst hu; rfl
abbrev numC (xs : List Int) : List Value := xs.flatMap numV

section
variable {W0 : World} {l : List As} {K : Value → C} {pn : Pn}

theorem same41_c {b i : Nat} {fn x : Int} (hi : l[i]? = some (pt b 3 [IV fn])) (h : Run W0 l (K (.bool (x == fn)))) :
    Run W0 l (nextS P (callVN (.func (.func 42) #[] #[Ptr b]) #[IV x]) K pn) := by
  rw [callVN_eq]
  show Run W0 l (callS P 42 #[IV x, Ptr b] K pn)
  refine r42 ?_
  unfold S42
  refine run_ld sc3 (cl1 hi rfl) ?_
  try simp only [pureE, pureT, Nat.zero_add, Nat.reduceAdd, Bool.not_false, Bool.not_true]
  exact h

theorem indexN_c {b i n : Nat} {fn : Int} {v : Value} {xs : List Int} (hi : l[i]? = some (pt b 3 [IV fn])) (hr : Rd W0 l 1 v n (numC xs)) (hn : n ≤ 4294967296)
    (hno : fn ∉ xs → Run W0 l (K (IV (-1)))) (hat : ∀ k : Nat, k < n → xs[k]? = some fn → fn ∉ xs.take k → Run W0 l (K (IV k))) : Run W0 l (callS P 56 #[v, .func (.func 42) #[] #[Ptr b]] K pn) := by
  refine r56 ?_
  unfold S56
  have hl : xs.length = n := rd_len numV_len (by omega) hr
  obtain ⟨a, c, rfl, h1, h2, h3⟩ := hr.form
  try simp only [pureE, pureT, Nat.zero_add, Nat.reduceAdd, Bool.not_false, Bool.not_true]
  refine run_loop (Inv := fun s : Nat => s ≤ n ∧ fn ∉ xs.take s) (J := fun s => [.slice a n c, .func (.func 42) #[] #[Ptr b], IV n, IV s]) (H := fun _ => l) (μ := fun s => n - s) 0 ⟨by omega, by simp⟩ rfl (fun _ hw => hw) ?_
  rintro s e ⟨hs, hp⟩ he
  simp only [List.map_cons, List.map_nil, List.cons.injEq, and_true] at he
  obtain ⟨e0, e1, e7, e8⟩ := he
  unfold S56_l1
  simp only [e0, e1, e7, e8]
  try simp only [pureE, pureT, Nat.zero_add, Nat.reduceAdd, Bool.not_false, Bool.not_true]
  by_cases hlt : s < n
  · rw [dec_t (show (s : Int) < n by omega)]
    try simp only [pureE, pureT, Nat.zero_add, Nat.reduceAdd, Bool.not_false, Bool.not_true]
    obtain ⟨x, hx⟩ : ∃ x, xs[s]? = some x := ⟨_, List.getElem?_eq_getElem (by omega)⟩
    refine run_rd_idx un71 ty3 numV_len (by omega) hr s hx fun b o hc => ?_
    refine run_ld sc3 hc ?_
    refine same41_c hi ?_
    cases hpx : x == fn
    · try simp only [pureE, pureT, Nat.zero_add, Nat.reduceAdd, Bool.not_false, Bool.not_true]
      rw [wrN (x := (s : Int) + 1) (s + 1) (by omega) (by omega)]
      refine run_nxt (s + 1) ⟨by omega, ?_⟩ (by omega) rfl fun _ hw => hw
      rw [List.take_add_one, hx]
      simp only [Option.toList_some, List.mem_append, List.mem_singleton, not_or]
      refine ⟨hp, fun h => ?_⟩
      subst h
      simp at hpx
    · try simp only [pureE, pureT, Nat.zero_add, Nat.reduceAdd, Bool.not_false, Bool.not_true]
      have : x = fn := by simpa using hpx
      subst this
      exact hat s hlt hx hp
  · rw [dec_f (show ¬ (s : Int) < n by omega)]
    try simp only [pureE, pureT, Nat.zero_add, Nat.reduceAdd, Bool.not_false, Bool.not_true]
    rw [List.take_of_length_le (by omega)] at hp
    exact hno hp

theorem filter_id {fn : Int} {xs : List Int} (h : fn ∉ xs) : xs.filter (· != fn) = xs := by
  rw [List.filter_eq_self]
  intro a ha
  simp only [bne_iff_ne, ne_eq]
  rintro rfl
  exact h ha

theorem deleteN_c {b i j n : Nat} {fn : Int} {v : Value} {xs : List Int} (hi : l[i]? = some (pt b 3 [IV fn])) (hj : l[j]? = some (row 3 1 v n (numC xs))) (hne : i ≠ j) (hn : n ≤ 4294967296)
    (h : ∀ v', Run W0 (l.set j (row 3 1 v' (xs.filter (· != fn)).length (numC (xs.filter (· != fn))))) (K v')) : Run W0 l (callS P 41 #[v, .func (.func 42) #[] #[Ptr b]] K pn) := by
  refine r41 ?_
  unfold S41
  refine run_row_rd j hj fun hrd => ?_
  have hl : xs.length = n := rd_len numV_len (by omega) hrd
  refine indexN_c hi hrd hn (fun hno => ?_) fun k hk hxk hnk => ?_
  · try simp only [pureE, pureT, Nat.zero_add, Nat.reduceAdd, Bool.not_false, Bool.not_true]
    rw [show ((-1 : Int) == -1) = true from rfl]
    try simp only [pureE, pureT, Nat.zero_add, Nat.reduceAdd, Bool.not_false, Bool.not_true]
    have := h v
    rw [filter_id hno, hl, row_set_id j hj] at this
    exact this
  · try simp only [pureE, pureT, Nat.zero_add, Nat.reduceAdd, Bool.not_false, Bool.not_true]
    rw [show ((k : Int) == -1) = false from by simp]
    try simp only [pureE, pureT, Nat.zero_add, Nat.reduceAdd, Bool.not_false, Bool.not_true]
    rw [wrN (x := (k : Int) + 1) (k + 1) (by omega) (by omega)]
    refine run_row_cases j hj (fun _ h2 _ => absurd h2 (by omega)) fun bb cp hv hnc hcm _ => ?_
    subst hv
    have htk : (xs.take (k + 1)).filter (· != fn) = xs.take k := by
      rw [List.take_add_one, List.filter_append, filter_id hnk, hxk]
      simp
    refine run_loop (Inv := fun s : Nat × List Int => s.1 ≤ n ∧ k < s.1 ∧ s.2.length = n ∧ s.2.take ((xs.take s.1).filter (· != fn)).length = (xs.take s.1).filter (· != fn) ∧ s.2.drop s.1 = xs.drop s.1 ∧ ((xs.take s.1).filter (· != fn)).length < s.1)
      (J := fun s => [.slice (some ⟨bb, 0, none⟩) n cp, .func (.func 42) #[] #[Ptr b], IV ((xs.take s.1).filter (· != fn)).length, IV s.1])
      (H := fun s => l.set j (row 3 1 (.slice (some ⟨bb, 0, none⟩) n cp) n (numC s.2))) (μ := fun s => n - s.1) (k + 1, xs) ⟨by omega, by omega, hl, ?_, rfl, ?_⟩ ?_ (fun w hw => ?_) ?_
    · rw [htk]; simp [List.length_take]
    · rw [htk, List.length_take]; omega
    · rw [htk, List.length_take, Nat.min_eq_left (by omega)]
    · rw [row_set_id j hj]; exact hw
    rintro ⟨s, c⟩ e ⟨hs, hks, hcl, hct, hcd, hlt2⟩ he
    simp only at hs hks hcl hct hcd hlt2
    simp only [List.map_cons, List.map_nil, List.cons.injEq, and_true] at he
    obtain ⟨e0, e1, e5, e6⟩ := he
    unfold S41_l1
    simp only [e0, e1, e5, e6]
    have hi' : (l.set j (row 3 1 (.slice (some ⟨bb, 0, none⟩) n cp) n (numC c)))[i]? = some (pt b 3 [IV fn]) := by
      rw [List.getElem?_set_ne (Ne.symm hne)]; exact hi
    have hj' : (l.set j (row 3 1 (.slice (some ⟨bb, 0, none⟩) n cp) n (numC c)))[j]? = some (row 3 1 (.slice (some ⟨bb, 0, none⟩) n cp) n (numC c)) := set_get hj
    generalize hm : ((xs.take s).filter (· != fn)).length = m at *
    try simp only [pureE, pureT, Nat.zero_add, Nat.reduceAdd, Bool.not_false, Bool.not_true]
    by_cases hlt : s < n
    · rw [dec_t (show (s : Int) < n by omega)]
      try simp only [pureE, pureT, Nat.zero_add, Nat.reduceAdd, Bool.not_false, Bool.not_true]
      obtain ⟨x, hx⟩ : ∃ x, xs[s]? = some x := ⟨_, List.getElem?_eq_getElem (by omega)⟩
      have hcx : c[s]? = some x := by
        have h1 : c[s]? = (c.drop s)[0]? := by simp
        rw [h1, hcd, List.getElem?_drop, Nat.add_zero, hx]
      refine run_nx _ (fun w => pv_idx un71 ty3 (i := (s : Int)) (by omega) (by omega)) ?_
      rw [Int.toNat_natCast, Nat.zero_add]
      refine run_ld sc3 (row_at numV_len hj' hcx) ?_
      refine same41_c hi' ?_
      have hd1 : c.drop (s + 1) = xs.drop (s + 1) := by
        rw [← List.drop_drop, hcd, List.drop_drop]
      cases hpx : x == fn
      · try simp only [pureE, pureT, Nat.zero_add, Nat.reduceAdd, Bool.not_false, Bool.not_true]
        have hf1 : (xs.take (s + 1)).filter (· != fn) = (xs.take s).filter (· != fn) ++ [x] := by
          rw [List.take_add_one, List.filter_append, hx]
          simp [bne, hpx]
        refine run_nx _ (fun w => pv_idx un71 ty3 (i := (m : Int)) (by omega) (by omega)) ?_
        rw [Int.toNat_natCast, Nat.zero_add]
        refine run_st_row ty3 hj' rfl (by simp [Value.cells, Value.oneCell']) (by rw [flat_len numV_len]; omega) ?_
        rw [List.set_set]
        have hsp : splice (numC c) (m * 1) (IV x).cells.toList = numC (c.set m x) := flat_splice1 (f := numV) numV_len c x (k := m) (by omega)
        rw [hsp]
        unfold S41_k2
        try simp only [pureE, pureT, Nat.zero_add, Nat.reduceAdd, Bool.not_false, Bool.not_true]
        rw [wrN (x := (m : Int) + 1) (m + 1) (by omega) (by omega), wrN (x := (s : Int) + 1) (s + 1) (by omega) (by omega)]
        refine fun w hw => ⟨(s + 1, c.set m x), by simp only; omega, ⟨by simp only; omega, by simp only; omega, by simpa using hcl, ?_, ?_, ?_⟩, ?_, hw⟩
        · simp only [hf1, List.length_append, hm, List.length_singleton]
          rw [List.take_add_one, List.take_set, List.getElem?_set_self (by omega), List.set_eq_of_length_le (by rw [List.length_take]; omega), hct]
          rfl
        · simp only
          rw [List.drop_set_of_lt (by omega), hd1]
        · simp only [hf1, List.length_append, hm, List.length_singleton]; omega
        · simp only [hf1, List.length_append, hm, List.length_singleton]
      · try simp only [pureE, pureT, Nat.zero_add, Nat.reduceAdd, Bool.not_false, Bool.not_true]
        have hf1 : (xs.take (s + 1)).filter (· != fn) = (xs.take s).filter (· != fn) := by
          rw [List.take_add_one, List.filter_append, hx]
          simp [bne, hpx]
        unfold S41_k2
        try simp only [pureE, pureT, Nat.zero_add, Nat.reduceAdd, Bool.not_false, Bool.not_true]
        rw [wrN (x := (s : Int) + 1) (s + 1) (by omega) (by omega)]
        refine fun w hw => ⟨(s + 1, c), by simp only; omega, ⟨by simp only; omega, by simp only; omega, hcl, ?_, hd1, ?_⟩, ?_, hw⟩
        · simp only [hf1, hm]; exact hct
        · simp only [hf1, hm]; omega
        · simp only [hf1, hm]
    · rw [dec_f (show ¬ (s : Int) < n by omega)]
      try simp only [pureE, pureT, Nat.zero_add, Nat.reduceAdd, Bool.not_false, Bool.not_true]
      have hsn : xs.take s = xs := List.take_of_length_le (by omega)
      rw [hsn] at hct hm
      refine run_nx _ (fun w => pv_cutLo un71 ty3 (i := (m : Int)) (by omega) (by omega) (by omega)) ?_
      rw [Int.toNat_natCast]
      refine run_clear_cut j un71 ty3 rfl (by simp [Value.cells, Value.oneCell']) hj' (by omega) ?_
      rw [List.set_set, flat_take numV_len, hct]
      refine run_nx _ (fun w => pv_cutHi un71 ty3 (i := (m : Int)) (by omega) (by omega) (by rintro x ⟨⟩ _; rfl)) ?_
      rw [Int.toNat_natCast]
      have := h (.slice (some ⟨bb, 0, none⟩) m cp)
      rw [hm] at this
      exact this
end
end Go.Proofs.YtkonigmefmgepaaGreatDoor
