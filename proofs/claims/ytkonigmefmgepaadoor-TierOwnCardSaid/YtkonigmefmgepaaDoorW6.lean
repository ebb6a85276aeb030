/- Contracts: Fold, and what is made of it (own work). -/
import Derived.Test.YtkonigmefmgepaaDoorW5
namespace Go.Proofs.YtkonigmefmgepaaDoor
open Go.RowKit
set_option linter.unusedVariables false
set_option linter.unusedSimpArgs false

section
variable {W0 : World} {l : List As} {K : Value → C} {pn : Pn}

theorem fold_c {v : Value} {n : Nat} {xs : List M.Ins} (hr : Rd W0 l 3 v n (insC xs)) (hn : n ≤ 4294967296)
    (h : ∀ v', Run W0 (row 51 3 v' (M.fold xs).length (insC (M.fold xs)) :: l) (K v')) : Run W0 l (callS P 59 #[v] K pn) := by
  refine r59 ?_
  unfold S59
  have hl : xs.length = n := rd_len insV_len (by omega) hr
  refine cloneIns_c hr (flat_one insV_one _) hn fun v1 _ => ?_
  refine run_row_rd 0 rfl fun hrd0 => ?_
  obtain ⟨a1, c1, hv1, _, _, _⟩ := hrd0.form
  subst hv1
  refine run_nx (.agg #[.slice a1 n c1]) (fun w => by kernel_rfl) ?_
  refine run_box fun fb => ?_
  refine run_to (pt fb 137 [.slice a1 n c1] :: row 51 3 (.slice a1 n c1) xs.length (insC xs) :: l) (fun w hw => by rw [hl]; exact hw) ?_
  refine fold_shut rfl ?_
  refine run_loop (Inv := fun ys : List M.Ins => M.fold ys = M.fold xs ∧ ys.length ≤ n) (J := fun ys => [Ptr fb]) (H := fun ys => foldA fb ys :: l) (μ := fun ys => ys.length) xs ⟨rfl, by omega⟩ rfl (fun _ hw => hw) ?_
  rintro ys e ⟨hys, hyn⟩ he
  simp only [List.map_cons, List.map_nil, List.cons.injEq, and_true] at he
  unfold S59_l1
  simp only [he]
  try simp only [pureE, pureT, Nat.zero_add, Nat.reduceAdd, Bool.not_false, Bool.not_true]
  refine fold_open fun v2 => ?_
  refine run_ld sc35 (cl1 (i := 0) rfl rfl) ?_
  refine run_row_rd 1 rfl fun hrd => ?_
  obtain ⟨a2, c2, hv2, _, _, _⟩ := hrd.form
  subst hv2
  try simp only [pureE, pureT, Nat.zero_add, Nat.reduceAdd, Bool.not_false, Bool.not_true]
  refine fold_shut rfl ?_
  refine run_loop (Inv := fun s : Nat => s ≤ ys.length ∧ ∀ j, j < s → M.rule j ys = none) (J := fun s => [Ptr fb, IV ys.length, IV s]) (H := fun s => foldA fb ys :: l) (μ := fun s => ys.length - s) 0 ⟨by omega, fun j hj => by omega⟩ rfl (fun _ hw => hw) ?_
  rintro s e2 ⟨hs, hno⟩ he2
  simp only [List.map_cons, List.map_nil, List.cons.injEq, and_true] at he2
  obtain ⟨e3, e13, e14⟩ := he2
  unfold S59_l2
  simp only [e3, e13, e14]
  try simp only [pureE, pureT, Nat.zero_add, Nat.reduceAdd, Bool.not_false, Bool.not_true]
  have hsk := M.firstR_skip (xs := ys) (f := ys.length) hs hno
  by_cases hlt : s < ys.length
  · rw [dec_t (show (s : Int) < (ys.length : Int) by omega)]
    try simp only [pureE, pureT, Nat.zero_add, Nat.reduceAdd, Bool.not_false, Bool.not_true]
    refine rule_c (by omega) hlt (fun zs hz => ?_) fun hz => ?_
    · try simp only [pureE, pureT, Nat.zero_add, Nat.reduceAdd, Bool.not_false, Bool.not_true]
      have hf : M.firstR ys ys.length 0 = some zs := by
        rw [hsk]
        obtain ⟨d, hd⟩ : ∃ d, ys.length - s = d + 1 := ⟨ys.length - s - 1, by omega⟩
        rw [hd, M.firstR, hz]
      have hlz := M.rule_len hz
      exact fun w hw => ⟨zs, hlz, ⟨(M.fold_some hf).symm.trans hys, by omega⟩, trivial, hw⟩
    · try simp only [pureE, pureT, Nat.zero_add, Nat.reduceAdd, Bool.not_false, Bool.not_true]
      refine run_nxt (s + 1) ⟨by omega, fun j hj => ?_⟩ (by omega) ?_ fun _ hw => hw
      · rcases Nat.lt_or_ge j s with h1 | h1
        · exact hno j h1
        · rw [show j = s by omega]; exact hz
      · rw [wrN (x := (s : Int) + 1) (s + 1) (by omega) (by omega)]
  · rw [dec_f (show ¬ (s : Int) < (ys.length : Int) by omega)]
    try simp only [pureE, pureT, Nat.zero_add, Nat.reduceAdd, Bool.not_false, Bool.not_true]
    have hs0 : ys.length - s = 0 := by omega
    rw [hs0] at hsk
    have hfin : M.fold xs = ys := hys.symm.trans (M.fold_none hsk)
    refine fold_open fun v3 => ?_
    refine run_ld sc35 (cl1 (i := 0) rfl rfl) ?_
    rw [hfin] at h
    exact run_drop (h v3)
end
end Go.Proofs.YtkonigmefmgepaaDoor
