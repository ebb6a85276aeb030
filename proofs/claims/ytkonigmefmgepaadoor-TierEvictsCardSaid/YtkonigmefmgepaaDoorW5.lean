/- Contracts: the folder's rules (own work). -/
import Derived.Test.YtkonigmefmgepaaDoorW4
namespace Go.Proofs.YtkonigmefmgepaaDoor
open Go.RowKit
set_option linter.unusedVariables false
set_option linter.unusedSimpArgs false

section
variable {W0 : World} {l : List As} {K : Value → C} {pn : Pn}

theorem free_c {i j fb at_ n : Nat} {v : Value} {xs : List M.Ins} (hi : l[i]? = some (pt fb 137 [v])) (hj : l[j]? = some (row 51 3 v n (insC xs))) (hn : n ≤ 4294967296) (ha : at_ ≤ 4294967296)
    (h : Run W0 l (K (.bool (M.free at_ xs)))) : Run W0 l (callS P 77 #[Ptr fb, IV at_] K pn) := by
  refine r77 ?_
  unfold S77
  refine run_row_rd j hj fun hrd => ?_
  have hxl : xs.length = n := rd_len insV_len (by omega) hrd
  obtain ⟨a, c, rfl, _, _, _⟩ := hrd.form
  refine run_box fun bb => ?_
  try simp only [pureE, pureT, Nat.zero_add, Nat.reduceAdd, Bool.not_false, Bool.not_true]
  refine run_draw (pt bb 3 [IV at_] :: l) (fun _ hw => hw) ?_
  refine take_ld sc3 (cl1 (i := 0) rfl rfl) ?_
  try simp only [pureE, pureT, Nat.zero_add, Nat.reduceAdd, Bool.not_false, Bool.not_true]
  refine take_ld sc35 (cl1 (i := i + 1) (by simpa using hi) rfl) ?_
  refine run_tk _ (fun w => pv_len un35) ?_
  try simp only [pureE, pureT, Nat.zero_add, Nat.reduceAdd, Bool.not_false, Bool.not_true]
  unfold M.free at h
  rw [hxl] at h
  by_cases hlt : at_ < n
  · rw [dec_t (show (at_ : Int) < n by omega)]
    rw [dec_t hlt] at h
    try simp only [pureE, pureT, Nat.zero_add, Nat.reduceAdd, Bool.not_false, Bool.not_true]
    refine take_ld sc35 (cl1 (i := i + 1) (by simpa using hi) rfl) ?_
    try simp only [pureE, pureT, Nat.zero_add, Nat.reduceAdd, Bool.not_false, Bool.not_true]
    refine contains_c (n := n) (xs := xs) (p := fun x => M.jumps x && x.a == (at_ : Int)) (hrd.mono fun _ hw => hw.tail) (by omega) (fun x K pn hx => freeF_c (i := 0) (T := 3) (b := bb) (at_ := (at_ : Int)) rfl x K pn hx) ?_
    try simp only [pureE, pureT, Nat.zero_add, Nat.reduceAdd, Bool.not_false, Bool.not_true]
    refine run_and (fun _ hw => hw) ?_
    exact run_drop h
  · rw [dec_f (show ¬ (at_ : Int) < n by omega)]
    rw [dec_f hlt] at h
    try simp only [pureE, pureT, Nat.zero_add, Nat.reduceAdd, Bool.not_false, Bool.not_true]
    refine run_and (fun _ hw => hw) ?_
    exact run_drop h

theorem push_c {n : Int} (h : Run W0 l (K (insA (M.push n)))) : Run W0 l (callS P 85 #[IV n] K pn) := by
  refine r85 ?_
  unfold S85
  refine run_alloc ty51 fun b => ?_
  refine run_nx (.agg #[IV 1, IV 0, IV n]) (fun w => by kernel_rfl) ?_
  refine run_st ty51 (i := 0) rfl rfl (by simp [Value.cells, Value.oneCell']) (by simp [Value.cells]) ?_
  refine run_cell ag51 ty51 (xs := [IV 1, IV 0, IV n]) rfl (cl_all (i := 0) rfl) ?_
  exact run_drop h

theorem insC_one (y : M.Ins) : insC [y] = insV y := by simp [insC]
theorem fold_open {fb : Nat} {xs : List M.Ins} {R : List As} {c : C} (h : ∀ v, Run W0 (pt fb 137 [v] :: row 51 3 v xs.length (insC xs) :: R) c) : Run W0 (foldA fb xs :: R) c :=
  run_open 0 rfl h
theorem fold_shut {fb n : Nat} {v : Value} {xs : List M.Ins} {R : List As} {c : C} (hn : n = xs.length) (h : Run W0 (foldA fb xs :: R) c) : Run W0 (pt fb 137 [v] :: row 51 3 v n (insC xs) :: R) c := by
  subst hn
  exact run_pack (ps := fun (v : Value) => [pt fb 137 [v], row 51 3 v xs.length (insC xs)]) v h

/-- A replacement by one instruction, and by none, amid a rule. -/
theorem replOne_c {fb bb at_ many : Nat} {v : Value} {xs : List M.Ins} {y : M.Ins} {X : As} {R : List As} (hn : xs.length ≤ 4294967296) (h0 : 0 < many) (hfit : at_ + many ≤ xs.length)
    (h : Run W0 (foldA fb (M.replace at_ many [y] xs) :: R) (K (.tuple #[]))) :
    Run W0 (pt bb 51 (insV y) :: X :: pt fb 137 [v] :: row 51 3 v xs.length (insC xs) :: R) (callS P 76 #[Ptr fb, IV at_, IV many, .slice (some ⟨bb, 0, none⟩) 1 1] K pn) := by
  refine run_to (pt fb 137 [v] :: row 51 3 v xs.length (insC xs) :: pt bb 51 (insC [y]) :: R) (fun w hw => ?_) ?_
  · have h1 : St W0 (pt fb 137 [v] :: pt bb 51 (insV y) :: X :: row 51 3 v xs.length (insC xs) :: R) w := hw.front 2
    have h2 : St W0 (row 51 3 v xs.length (insC xs) :: pt fb 137 [v] :: pt bb 51 (insV y) :: X :: R) w := h1.front 3
    have h3 : St W0 (pt fb 137 [v] :: row 51 3 v xs.length (insC xs) :: pt bb 51 (insV y) :: X :: R) w := h2.front 1
    rw [insC_one]
    exact h3.erase 3
  refine fold_shut rfl ?_
  refine replace_c (i := 0) (m := 1) (by_ := [y]) rfl ?_ hn h0 hfit (by omega) ?_
  · exact Rd.pt (i := 0) rfl 3 (by simp [insC, insV])
  · refine run_to (foldA fb (M.replace at_ many [y] xs) :: R) (fun w hw => ?_) h
    exact hw.erase 1
theorem replNone_c {fb at_ many : Nat} {v : Value} {xs : List M.Ins} {X : As} {R : List As} (hn : xs.length ≤ 4294967296) (h0 : 0 < many) (hfit : at_ + many ≤ xs.length)
    (h : Run W0 (foldA fb (M.replace at_ many [] xs) :: R) (K (.tuple #[]))) :
    Run W0 (X :: pt fb 137 [v] :: row 51 3 v xs.length (insC xs) :: R) (callS P 76 #[Ptr fb, IV at_, IV many, .slice none 0 0] K pn) := by
  refine run_drop ?_
  refine fold_shut rfl ?_
  exact replace_c (i := 0) (m := 0) (by_ := []) rfl Rd.nil hn h0 hfit (by omega) h

theorem fill_one (y : M.Ins) : Instr.fill (fun i => some (i * 3, 3)) ((Array.range (1 * 3)).map ((Value.agg #[IV 0, IV 0, IV 0]).cells[· % (Value.agg #[IV 0, IV 0, IV 0]).cells.size]!)) [(0, insA y)] = some (insV y).toArray := by kernel_rfl

theorem behind_c {fb at_ : Nat} {xs : List M.Ins} {p x : M.Ins} {R : List As} (hn : xs.length ≤ 4294967296) (hp : xs[at_]? = some p) (hx : xs[at_ + 1]? = some x)
    (ht : ∀ ys, M.behind at_ xs p.n x = some ys → Run W0 (foldA fb ys :: R) (K (.bool true)))
    (hf : M.behind at_ xs p.n x = none → Run W0 (foldA fb xs :: R) (K (.bool false))) :
    Run W0 (foldA fb xs :: R) (callS P 78 #[Ptr fb, IV at_] K pn) := by
  refine r78 ?_
  unfold S78
  refine fold_open fun v => ?_
  have hl1 := (List.getElem?_eq_some_iff.1 hx).1
  refine run_row_rd 1 rfl fun hrd => ?_
  refine run_draw (pt fb 137 [v] :: row 51 3 v xs.length (insC xs) :: R) (fun _ hw => hw) ?_
  try simp only [pureE, pureT, Nat.zero_add, Nat.reduceAdd, Bool.not_false, Bool.not_true]
  refine take_ld sc35 (cl1 (i := 0) rfl rfl) ?_
  refine run_rd_idxP un35 ty51 insV_len (by omega) hrd at_ hp fun b o hc => ?_
  try simp only [pureE, pureT, Nat.zero_add, Nat.reduceAdd, Bool.not_false, Bool.not_true]
  refine take_ld sc2 (hc.fld (k := 2) rfl) ?_
  refine take_ld sc35 (cl1 (i := 0) rfl rfl) ?_
  try simp only [pureE, pureT, Nat.zero_add, Nat.reduceAdd, Bool.not_false, Bool.not_true]
  rw [wrN (x := (at_ : Int) + 1) (at_ + 1) (by omega) (by omega)]
  refine run_rd_idxP un35 ty51 insV_len (by omega) hrd (at_ + 1) hx fun b2 o2 hc2 => ?_
  refine take_lda ag51 ty51 rfl hc2 ?_
  refine run_alloc ty51 fun b6 => ?_
  refine run_and (fun _ hw => hw.tail) ?_
  refine run_st ty51 (i := 0) rfl rfl (by simp [insV, Value.cells, Value.oneCell']) (by simp [Value.cells]) ?_
  refine run_and (fun _ hw => hw.tail) ?_
  refine run_to (pt b6 51 (insV x) :: pt fb 137 [v] :: row 51 3 v xs.length (insC xs) :: R) (fun w hw => hw) ?_
  unfold M.behind at ht hf
  try simp only [pureE, pureT, Nat.zero_add, Nat.reduceAdd, Bool.not_false, Bool.not_true]
  refine run_ld sc3 (cl1 (i := 0) rfl rfl) ?_
  try simp only [pureE, pureT, Nat.zero_add, Nat.reduceAdd, Bool.not_false, Bool.not_true]
  cases h1 : x.op == 4 || x.op == 5
  case true =>
    rw [if_pos h1] at ht
    have go : Run W0 (pt b6 51 (insV x) :: pt fb 137 [v] :: row 51 3 v xs.length (insC xs) :: R)
      (nextS P (V (Instr.loadAt 3 (.pointer (some ⟨b6, 0, none⟩)))) (fun x39 => callS P 84 #[x39, IV p.n, IV 0] (fun x41 => nextS P (V (Instr.extract x41 0)) (fun x42 => nextS P (V (Instr.extract x41 1)) (fun x43 => callS P 85 #[x42] (fun x47 => nextS P (V (Instr.buildSlice 35 1 #[(0, x47)])) (fun x48 => callS P 76 #[Ptr fb, IV at_, IV (2 : Nat), x48] (fun _ => K (.bool true)) pn) pn) pn) pn) pn) pn) pn) := by
      refine run_ld sc3 (cl1 (i := 0) rfl rfl) ?_
      try simp only [pureE, pureT, Nat.zero_add, Nat.reduceAdd, Bool.not_false, Bool.not_true]
      refine do_c ?_
      try simp only [pureE, pureT, Nat.zero_add, Nat.reduceAdd, Bool.not_false, Bool.not_true]
      refine push_c ?_
      refine run_buildSlice (insV (M.push (M.doI x.op p.n 0).1)) un35 ty51 (by omega) (by omega) (fill_one _) fun bb => ?_
      exact replOne_c hn (by omega) (by omega) (ht _ rfl)
    cases h4 : x.op == 4
    · try simp only [pureE, pureT, Nat.zero_add, Nat.reduceAdd, Bool.not_false, Bool.not_true]
      refine run_ld sc3 (cl1 (i := 0) rfl rfl) ?_
      try simp only [pureE, pureT, Nat.zero_add, Nat.reduceAdd, Bool.not_false, Bool.not_true]
      have h5 : (x.op == 5) = true := by simpa [h4] using h1
      rw [h5]
      try simp only [pureE, pureT, Nat.zero_add, Nat.reduceAdd, Bool.not_false, Bool.not_true]
      exact go
    · try simp only [pureE, pureT, Nat.zero_add, Nat.reduceAdd, Bool.not_false, Bool.not_true]
      exact go
  rw [if_neg (by simp [h1])] at ht hf
  have h4 : (x.op == 4) = false := by cases h : x.op == 4 <;> simp_all
  have h5 : (x.op == 5) = false := by cases h : x.op == 5 <;> simp_all
  rw [h4]
  try simp only [pureE, pureT, Nat.zero_add, Nat.reduceAdd, Bool.not_false, Bool.not_true]
  refine run_ld sc3 (cl1 (i := 0) rfl rfl) ?_
  try simp only [pureE, pureT, Nat.zero_add, Nat.reduceAdd, Bool.not_false, Bool.not_true]
  rw [h5]
  try simp only [pureE, pureT, Nat.zero_add, Nat.reduceAdd, Bool.not_false, Bool.not_true]
  refine run_ld sc3 (cl1 (i := 0) rfl rfl) ?_
  try simp only [pureE, pureT, Nat.zero_add, Nat.reduceAdd, Bool.not_false, Bool.not_true]
  cases h16 : x.op == 16
  case true =>
    try simp only [pureE, pureT, Nat.zero_add, Nat.reduceAdd, Bool.not_false, Bool.not_true]
    simp only [h16, Bool.true_and, if_true] at ht hf
    cases h0 : p.n == 0
    · simp only [h0, Bool.false_eq_true, if_false] at ht hf
      try simp only [pureE, pureT, Nat.zero_add, Nat.reduceAdd, Bool.not_false, Bool.not_true]
      refine run_ld sc3 (cl1 (i := 0) rfl rfl) ?_
      try simp only [pureE, pureT, Nat.zero_add, Nat.reduceAdd, Bool.not_false, Bool.not_true]
      rw [h16]
      try simp only [pureE, pureT, Nat.zero_add, Nat.reduceAdd, Bool.not_false, Bool.not_true]
      exact replNone_c (many := 2) hn (by omega) (by omega) (ht _ rfl)
    · simp only [h0, if_true] at ht hf
      try simp only [pureE, pureT, Nat.zero_add, Nat.reduceAdd, Bool.not_false, Bool.not_true]
      refine run_ld sc3 (cl1 (i := 0) rfl rfl) ?_
      try simp only [pureE, pureT, Nat.zero_add, Nat.reduceAdd, Bool.not_false, Bool.not_true]
      refine run_nx (insA ⟨15, x.a, 0⟩) (fun w => by kernel_rfl) ?_
      refine run_buildSlice (insV ⟨15, x.a, 0⟩) un35 ty51 (by omega) (by omega) (fill_one _) fun bb => ?_
      exact replOne_c (many := 2) hn (by omega) (by omega) (ht _ rfl)
  simp only [h16, Bool.false_and, Bool.false_eq_true, if_false] at ht hf
  try simp only [pureE, pureT, Nat.zero_add, Nat.reduceAdd, Bool.not_false, Bool.not_true]
  refine run_ld sc3 (cl1 (i := 0) rfl rfl) ?_
  try simp only [pureE, pureT, Nat.zero_add, Nat.reduceAdd, Bool.not_false, Bool.not_true]
  rw [h16]
  try simp only [pureE, pureT, Nat.zero_add, Nat.reduceAdd, Bool.not_false, Bool.not_true]
  refine run_ld sc3 (cl1 (i := 0) rfl rfl) ?_
  try simp only [pureE, pureT, Nat.zero_add, Nat.reduceAdd, Bool.not_false, Bool.not_true]
  have shut : ∀ {c : C}, Run W0 (foldA fb xs :: R) c → Run W0 (pt b6 51 (insV x) :: pt fb 137 [v] :: row 51 3 v xs.length (insC xs) :: R) c := fun h => run_drop (fold_shut rfl h)
  cases hne : x.op != 1
  case true =>
    simp only [hne, Bool.true_or, if_true] at hf
    try simp only [pureE, pureT, Nat.zero_add, Nat.reduceAdd, Bool.not_false, Bool.not_true]
    exact shut (hf trivial)
  simp only [hne, Bool.false_or] at ht hf
  try simp only [pureE, pureT, Nat.zero_add, Nat.reduceAdd, Bool.not_false, Bool.not_true]
  rw [wrN (x := (at_ : Int) + 2) (at_ + 2) (by omega) (by omega)]
  refine free_c (i := 1) (j := 2) rfl rfl hn (by omega) ?_
  try simp only [pureE, pureT, Nat.zero_add, Nat.reduceAdd, Bool.not_false, Bool.not_true]
  cases hfr : M.free (at_ + 2) xs
  · simp only [hfr, Bool.not_false, if_true] at hf
    try simp only [pureE, pureT, Nat.zero_add, Nat.reduceAdd, Bool.not_false, Bool.not_true]
    exact shut (hf trivial)
  simp only [hfr, Bool.not_true, Bool.false_eq_true, if_false] at ht hf
  try simp only [pureE, pureT, Nat.zero_add, Nat.reduceAdd, Bool.not_false, Bool.not_true]
  have hl2 : at_ + 2 < xs.length := by
    unfold M.free at hfr
    simp only [Bool.and_eq_true, decide_eq_true_eq] at hfr
    exact hfr.1
  obtain ⟨y, hy⟩ : ∃ y, xs[at_ + 2]? = some y := ⟨_, List.getElem?_eq_getElem hl2⟩
  simp only [hy] at ht hf
  refine run_ld sc35 (cl1 (i := 1) rfl rfl) ?_
  refine run_row_rd 2 rfl fun hrd2 => ?_
  refine run_rd_idx un35 ty51 insV_len (by omega) hrd2 (at_ + 2) hy fun b3 o3 hc3 => ?_
  try simp only [pureE, pureT, Nat.zero_add, Nat.reduceAdd, Bool.not_false, Bool.not_true]
  refine run_ld sc3 (hc3.fld (k := 0) rfl) ?_
  try simp only [pureE, pureT, Nat.zero_add, Nat.reduceAdd, Bool.not_false, Bool.not_true]
  cases h6 : decide (y.op < 6)
  case true =>
    simp only [h6, Bool.true_or, if_true] at hf
    try simp only [pureE, pureT, Nat.zero_add, Nat.reduceAdd, Bool.not_false, Bool.not_true]
    exact shut (hf trivial)
  simp only [h6, Bool.false_or] at ht hf
  try simp only [pureE, pureT, Nat.zero_add, Nat.reduceAdd, Bool.not_false, Bool.not_true]
  cases h14 : decide (14 < y.op)
  case true =>
    simp only [h14, if_true] at hf
    try simp only [pureE, pureT, Nat.zero_add, Nat.reduceAdd, Bool.not_false, Bool.not_true]
    exact shut (hf trivial)
  simp only [h14, Bool.false_eq_true, if_false] at ht hf
  try simp only [pureE, pureT, Nat.zero_add, Nat.reduceAdd, Bool.not_false, Bool.not_true]
  refine run_ld sc2 (cl1 (i := 0) rfl rfl) ?_
  try simp only [pureE, pureT, Nat.zero_add, Nat.reduceAdd, Bool.not_false, Bool.not_true]
  refine do_c ?_
  try simp only [pureE, pureT, Nat.zero_add, Nat.reduceAdd, Bool.not_false, Bool.not_true]
  unfold S78_k1
  cases hok : (M.doI y.op p.n x.n).2
  · simp only [hok, Bool.false_eq_true, if_false] at hf
    try simp only [pureE, pureT, Nat.zero_add, Nat.reduceAdd, Bool.not_false, Bool.not_true]
    exact shut (hf trivial)
  simp only [hok, if_true] at ht
  try simp only [pureE, pureT, Nat.zero_add, Nat.reduceAdd, Bool.not_false, Bool.not_true]
  refine push_c ?_
  refine run_buildSlice (insV (M.push (M.doI y.op p.n x.n).1)) un35 ty51 (by omega) (by omega) (fill_one _) fun bb => ?_
  exact replOne_c (many := 3) hn (by omega) (by omega) (ht _ rfl)

theorem rule_c {fb at_ : Nat} {xs : List M.Ins} {R : List As} (hn : xs.length ≤ 4294967296) (hl : at_ < xs.length)
    (ht : ∀ ys, M.rule at_ xs = some ys → Run W0 (foldA fb ys :: R) (K (.bool true)))
    (hf : M.rule at_ xs = none → Run W0 (foldA fb xs :: R) (K (.bool false))) :
    Run W0 (foldA fb xs :: R) (callS P 68 #[Ptr fb, IV at_] K pn) := by
  refine r68 ?_
  unfold S68
  refine fold_open fun v => ?_
  obtain ⟨p, hp⟩ : ∃ p, xs[at_]? = some p := ⟨_, List.getElem?_eq_getElem hl⟩
  refine run_row_rd 1 rfl fun hrd => ?_
  unfold M.rule at ht hf
  simp only [hp] at ht hf
  try simp only [pureE, pureT, Nat.zero_add, Nat.reduceAdd, Bool.not_false, Bool.not_true]
  refine run_ld sc35 (cl1 (i := 0) rfl rfl) ?_
  refine run_rd_idx un35 ty51 insV_len (by omega) hrd at_ hp fun b o hc => ?_
  refine run_lda ag51 ty51 rfl hc ?_
  refine run_alloc ty51 fun b6 => ?_
  refine run_st ty51 (i := 0) rfl rfl (by simp [insV, Value.cells, Value.oneCell']) (by simp [Value.cells]) ?_
  refine run_to (pt b6 51 (insV p) :: pt fb 137 [v] :: row 51 3 v xs.length (insC xs) :: R) (fun w hw => hw) ?_
  have shut : ∀ {c : C}, Run W0 (foldA fb xs :: R) c → Run W0 (pt b6 51 (insV p) :: pt fb 137 [v] :: row 51 3 v xs.length (insC xs) :: R) c := fun h => run_drop (fold_shut rfl h)
  try simp only [pureE, pureT, Nat.zero_add, Nat.reduceAdd, Bool.not_false, Bool.not_true]
  refine run_ld sc3 (cl1 (i := 0) rfl rfl) ?_
  try simp only [pureE, pureT, Nat.zero_add, Nat.reduceAdd, Bool.not_false, Bool.not_true]
  have rest : (p.op == 15 && p.a == ((at_ + 1 : Nat) : Int)) = false → Run W0 (pt b6 51 (insV p) :: pt fb 137 [v] :: row 51 3 v xs.length (insC xs) :: R)
      (nextS P (V (Instr.loadAt 3 (.pointer (some ⟨b6, 0, none⟩)))) (fun x29 => nextS P (binN .eql 3 (.tmp 29) (.const (IV 1)) x29 (IV 1)) (fun x30 =>
        grdS x30 true (fun K => K (Ptr fb)) fun x32 => grdS x30 true (fun K => K (IV at_)) fun x33 => grdS x30 true (fun K => nextS P (binN .add 3 (.tmp 33) (.const (IV 1)) x33 (IV 1)) K pn) fun x34 =>
        grdS x30 true (fun K => callS P 77 #[x32, x34] K pn) fun x35 => nextS P (pickN x30 x35 (Value.bool false)) (fun x36 => condS x36 (callS P 78 #[Ptr fb, IV at_] (fun x39 => K x39) pn) (K (Value.bool false))) pn) pn) pn) := by
    intro h15
    simp only [h15, Bool.false_eq_true, if_false] at ht hf
    refine run_ld sc3 (cl1 (i := 0) rfl rfl) ?_
    try simp only [pureE, pureT, Nat.zero_add, Nat.reduceAdd, Bool.not_false, Bool.not_true]
    cases h1 : p.op == 1
    · simp only [h1, Bool.false_and, Bool.false_eq_true, if_false] at hf
      try simp only [pureE, pureT, Nat.zero_add, Nat.reduceAdd, Bool.not_false, Bool.not_true]
      exact shut (hf trivial)
    simp only [h1, Bool.true_and] at ht hf
    try simp only [pureE, pureT, Nat.zero_add, Nat.reduceAdd, Bool.not_false, Bool.not_true]
    rw [wrN (x := (at_ : Int) + 1) (at_ + 1) (by omega) (by omega)]
    refine free_c (i := 1) (j := 2) rfl rfl hn (by omega) ?_
    try simp only [pureE, pureT, Nat.zero_add, Nat.reduceAdd, Bool.not_false, Bool.not_true]
    cases hfr : M.free (at_ + 1) xs
    · simp only [hfr, Bool.false_eq_true, if_false] at hf
      try simp only [pureE, pureT, Nat.zero_add, Nat.reduceAdd, Bool.not_false, Bool.not_true]
      exact shut (hf trivial)
    simp only [hfr, if_true] at ht hf
    try simp only [pureE, pureT, Nat.zero_add, Nat.reduceAdd, Bool.not_false, Bool.not_true]
    have hl2 : at_ + 1 < xs.length := by
      unfold M.free at hfr
      simp only [Bool.and_eq_true, decide_eq_true_eq] at hfr
      exact hfr.1
    obtain ⟨y, hy⟩ : ∃ y, xs[at_ + 1]? = some y := ⟨_, List.getElem?_eq_getElem hl2⟩
    simp only [hy] at ht hf
    exact shut (behind_c hn hp hy ht hf)
  cases h15 : p.op == 15
  · try simp only [pureE, pureT, Nat.zero_add, Nat.reduceAdd, Bool.not_false, Bool.not_true]
    exact rest (by rw [h15]; rfl)
  · try simp only [pureE, pureT, Nat.zero_add, Nat.reduceAdd, Bool.not_false, Bool.not_true]
    refine run_ld sc3 (cl1 (i := 0) rfl rfl) ?_
    try simp only [pureE, pureT, Nat.zero_add, Nat.reduceAdd, Bool.not_false, Bool.not_true]
    rw [wrN (x := (at_ : Int) + 1) (at_ + 1) (by omega) (by omega)]
    cases ha : p.a == ((at_ + 1 : Nat) : Int)
    · try simp only [pureE, pureT, Nat.zero_add, Nat.reduceAdd, Bool.not_false, Bool.not_true]
      exact rest (by rw [h15, ha]; rfl)
    · simp only [h15, ha, Bool.true_and, if_true] at ht
      try simp only [pureE, pureT, Nat.zero_add, Nat.reduceAdd, Bool.not_false, Bool.not_true]
      exact replNone_c (many := 1) hn (by omega) (by omega) (ht _ rfl)
end
end Go.Proofs.YtkonigmefmgepaaDoor
