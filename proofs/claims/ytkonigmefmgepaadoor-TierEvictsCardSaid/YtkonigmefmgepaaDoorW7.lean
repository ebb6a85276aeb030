/- Contracts: a function for a number (own work). -/
import Derived.Test.YtkonigmefmgepaaDoorW6
namespace Go.Proofs.YtkonigmefmgepaaDoor
open Go.RowKit
set_option linter.unusedVariables false
set_option linter.unusedSimpArgs false

def fnV (f : M.Fn) (v : Value) : List Value := [.string f.name, IV f.params, IV f.vars, IV f.arrays, v]
abbrev fnA (f : M.Fn) (v : Value) : Value := .agg #[.string f.name, IV f.params, IV f.vars, IV f.arrays, v]

section
variable {W0 : World} {l : List As} {K : Value → C} {pn : Pn}

theorem plain_c {f : M.Fn} {v : Value} {n : Nat} (hr : Rd W0 l 3 v n (insC f.l)) (hn : n ≤ 4294967296)
    (h : ∀ v', Run W0 (row 51 3 v' (M.fold f.l).length (insC (M.fold f.l)) :: l) (K v')) : Run W0 l (callS P 50 #[fnA f v] K pn) := by
  refine r50 ?_
  unfold S50
  refine run_box fun b => ?_
  try simp only [pureE, pureT, Nat.zero_add, Nat.reduceAdd, Bool.not_false, Bool.not_true]
  refine run_ld sc35 (cl1 (i := 0) rfl rfl) ?_
  refine fold_c (hr.mono fun _ hw => hw.tail) hn fun v' => ?_
  exact run_erase 1 (h v')

theorem fixed_c {f : M.Fn} {v : Value} {n : Nat} {p : Int} (hr : Rd W0 l 3 v n (insC f.l)) (hn : n ≤ 4294967296)
    (h : Run W0 l (K (.bool (M.fixed p f.params f.l)))) : Run W0 l (callS P 58 #[fnA f v, IV p] K pn) := by
  refine r58 ?_
  unfold S58
  unfold M.fixed at h
  refine run_box fun b => ?_
  refine run_box fun b2 => ?_
  refine run_ld sc3 (cl1 (i := 0) rfl rfl) ?_
  try simp only [pureE, pureT, Nat.zero_add, Nat.reduceAdd, Bool.not_false, Bool.not_true]
  cases h0 : decide (0 ≤ p)
  · rw [h0] at h
    try simp only [pureE, pureT, Nat.zero_add, Nat.reduceAdd, Bool.not_false, Bool.not_true]
    exact run_drop (run_drop h)
  rw [h0] at h
  try simp only [pureE, pureT, Nat.zero_add, Nat.reduceAdd, Bool.not_false, Bool.not_true]
  refine run_ld sc3 (cl1 (i := 0) rfl rfl) ?_
  try simp only [pureE, pureT, Nat.zero_add, Nat.reduceAdd, Bool.not_false, Bool.not_true]
  refine run_ld sc3 (cl1 (i := 1) rfl rfl) ?_
  try simp only [pureE, pureT, Nat.zero_add, Nat.reduceAdd, Bool.not_false, Bool.not_true]
  cases h1 : decide (p < f.params)
  · rw [h1] at h
    try simp only [pureE, pureT, Nat.zero_add, Nat.reduceAdd, Bool.not_false, Bool.not_true]
    exact run_drop (run_drop h)
  rw [h1] at h
  try simp only [pureE, pureT, Nat.zero_add, Nat.reduceAdd, Bool.not_false, Bool.not_true]
  refine run_ld sc35 (cl1 (i := 1) rfl rfl) ?_
  try simp only [pureE, pureT, Nat.zero_add, Nat.reduceAdd, Bool.not_false, Bool.not_true]
  refine contains_c (p := fun x => M.sets x p) (hr.mono fun _ hw => hw.tail.tail) hn (fun x K pn hx => fixF_c (i := 0) (T := 3) (b := b2) rfl x K pn hx) ?_
  try simp only [pureE, pureT, Nat.zero_add, Nat.reduceAdd, Bool.not_false, Bool.not_true]
  exact run_drop (run_drop h)

theorem for_c {f : M.Fn} {v : Value} {n : Nat} {p num : Int} (hr : Rd W0 l 3 v n (insC f.l)) (hn : n ≤ 4294967296)
    (h : ∀ v', Run W0 (row 51 3 v' (M.spec p num f.params f.l).length (insC (M.spec p num f.params f.l)) :: l) (K v')) : Run W0 l (callS P 49 #[fnA f v, IV p, IV num] K pn) := by
  refine r49 ?_
  unfold S49
  have hl : f.l.length = n := rd_len insV_len (by omega) hr
  refine run_box fun b => ?_
  refine run_lda ag46 ty46 (xs := fnV f v) rfl (cl_all (i := 0) rfl) ?_
  refine fixed_c (hr.mono fun _ hw => hw.tail) hn ?_
  unfold M.spec at h
  cases hfx : M.fixed p f.params f.l
  · rw [hfx] at h
    try simp only [pureE, pureT, Nat.zero_add, Nat.reduceAdd, Bool.not_false, Bool.not_true]
    refine run_lda ag46 ty46 (xs := fnV f v) rfl (cl_all (i := 0) rfl) ?_
    refine plain_c (hr.mono fun _ hw => hw.tail) hn fun v' => ?_
    exact run_erase 1 (h v')
  rw [hfx, if_pos rfl] at h
  try simp only [pureE, pureT, Nat.zero_add, Nat.reduceAdd, Bool.not_false, Bool.not_true]
  refine run_ld sc35 (cl1 (i := 0) rfl rfl) ?_
  refine cloneIns_c (hr.mono fun _ hw => hw.tail) (flat_one insV_one _) hn fun v1 _ => ?_
  refine run_row_rd 0 rfl fun hrd => ?_
  obtain ⟨a1, c1, hv1, _, _, _⟩ := hrd.form
  subst hv1
  try simp only [pureE, pureT, Nat.zero_add, Nat.reduceAdd, Bool.not_false, Bool.not_true]
  refine run_loop (Inv := fun s : Nat => s ≤ n) (J := fun s => [IV p, IV num, .slice a1 n c1, .slice a1 n c1, IV n, IV s])
    (H := fun s => row 51 3 (.slice a1 n c1) n (insC ((f.l.take s).map (M.sub p num) ++ f.l.drop s)) :: l) (μ := fun s => n - s) 0 (by omega) rfl (fun w hw => ?_) ?_
  · have := hw.erase 1
    exact this
  intro s e hs he
  simp only [List.map_cons, List.map_nil, List.cons.injEq, and_true] at he
  obtain ⟨e1, e2, e7, e19, e20, e21⟩ := he
  unfold S49_l1
  simp only [e1, e2, e7, e19, e20, e21]
  try simp only [pureE, pureT, Nat.zero_add, Nat.reduceAdd, Bool.not_false, Bool.not_true]
  by_cases hlt : s < n
  · rw [dec_t (show (s : Int) < n by omega)]
    try simp only [pureE, pureT, Nat.zero_add, Nat.reduceAdd, Bool.not_false, Bool.not_true]
    obtain ⟨x, hx⟩ : ∃ x, f.l[s]? = some x := ⟨_, List.getElem?_eq_getElem (by omega)⟩
    have hx' := map_at (M.sub p num) hx
    have hst := map_step (M.sub p num) hx
    have next : ∀ c, (c = (f.l.take (s + 1)).map (M.sub p num) ++ f.l.drop (s + 1)) → Run W0 (row 51 3 (.slice a1 n c1) n (insC c) :: l)
        (S49_k2 (fun vs' w' => ∃ s', n - s' < n - s ∧ s' ≤ n ∧ [IV p, IV num, .slice a1 n c1, .slice a1 n c1, IV n, IV (s' : Nat)] = vs' ∧ St W0 (row 51 3 (.slice a1 n c1) n (insC ((f.l.take s').map (M.sub p num) ++ f.l.drop s')) :: l) w')
          K pn (IV p) (IV num) (.slice a1 n c1) (.slice a1 n c1) (IV n) (IV s)) := by
      rintro c rfl
      unfold S49_k2
      try simp only [pureE, pureT, Nat.zero_add, Nat.reduceAdd, Bool.not_false, Bool.not_true]
      rw [wrN (x := (s : Int) + 1) (s + 1) (by omega) (by omega)]
      exact fun w hw => ⟨s + 1, by omega, by omega, rfl, hw⟩
    refine run_row_rd 0 rfl fun hrd1 => ?_
    refine run_rd_idx un35 ty51 insV_len (by omega) hrd1 s hx' fun b3 o3 hc3 => ?_
    refine run_lda ag51 ty51 rfl hc3 ?_
    refine run_alloc ty51 fun b9 => ?_
    refine run_st ty51 (i := 0) rfl rfl (by simp [insV, Value.cells, Value.oneCell']) (by simp [Value.cells]) ?_
    refine run_to (pt b9 51 (insV x) :: row 51 3 (.slice a1 n c1) n (insC ((f.l.take s).map (M.sub p num) ++ f.l.drop s)) :: l) (fun w hw => hw) ?_
    try simp only [pureE, pureT, Nat.zero_add, Nat.reduceAdd, Bool.not_false, Bool.not_true]
    refine run_ld sc3 (cl1 (i := 0) rfl rfl) ?_
    try simp only [pureE, pureT, Nat.zero_add, Nat.reduceAdd, Bool.not_false, Bool.not_true]
    cases h2 : x.op == 2
    · try simp only [pureE, pureT, Nat.zero_add, Nat.reduceAdd, Bool.not_false, Bool.not_true]
      refine run_drop (next _ ?_)
      rw [← hst]
      have : M.sub p num x = x := by simp [M.sub, h2]
      rw [this, set_self hx']
    try simp only [pureE, pureT, Nat.zero_add, Nat.reduceAdd, Bool.not_false, Bool.not_true]
    refine run_ld sc3 (cl1 (i := 0) rfl rfl) ?_
    try simp only [pureE, pureT, Nat.zero_add, Nat.reduceAdd, Bool.not_false, Bool.not_true]
    cases ha : x.a == p
    · try simp only [pureE, pureT, Nat.zero_add, Nat.reduceAdd, Bool.not_false, Bool.not_true]
      refine run_drop (next _ ?_)
      rw [← hst]
      have : M.sub p num x = x := by simp [M.sub, h2, ha]
      rw [this, set_self hx']
    try simp only [pureE, pureT, Nat.zero_add, Nat.reduceAdd, Bool.not_false, Bool.not_true]
    refine run_drop ?_
    refine run_nx (insA ⟨1, 0, num⟩) (fun w => by kernel_rfl) ?_
    refine run_row_cases 0 rfl (fun _ h2 _ => absurd h2 (by omega)) fun b cp hv hnc hcm _ => ?_
    simp only [Value.slice.injEq] at hv
    obtain ⟨rfl, _, rfl⟩ := hv
    refine run_nx _ (fun w => pv_idx un35 ty51 (i := (s : Int)) (by omega) (by omega)) ?_
    rw [Int.toNat_natCast, Nat.zero_add]
    refine run_st_row ty51 (i := 0) rfl rfl (by simp [Value.cells, Value.oneCell']) ?_ ?_
    · rw [flat_len insV_len]
      simp only [List.length_append, List.length_map, List.length_take, List.length_drop]
      omega
    refine Run.of (next _ hst) fun w hw => ?_
    have hf := flat_splice1 (f := insV) insV_len ((f.l.take s).map (M.sub p num) ++ f.l.drop s) (M.sub p num x) (k := s) (by simp only [List.length_append, List.length_map, List.length_take, List.length_drop]; omega)
    have hsub : M.sub p num x = ⟨1, 0, num⟩ := by simp [M.sub, h2, ha]
    rw [insC, ← hf, hsub]
    exact hw
  · rw [dec_f (show ¬ (s : Int) < n by omega)]
    try simp only [pureE, pureT, Nat.zero_add, Nat.reduceAdd, Bool.not_false, Bool.not_true]
    have hfin : (f.l.take s).map (M.sub p num) ++ f.l.drop s = f.l.map (M.sub p num) := by
      rw [List.take_of_length_le (by omega), List.drop_of_length_le (by omega), List.append_nil]
    rw [hfin]
    refine run_row_rd 0 rfl fun hrd1 => ?_
    refine fold_c hrd1 (by omega) fun v' => ?_
    exact run_erase 1 (h v')
end
end Go.Proofs.YtkonigmefmgepaaDoor
