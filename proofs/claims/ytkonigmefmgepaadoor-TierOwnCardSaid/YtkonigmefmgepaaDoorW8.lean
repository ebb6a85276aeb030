/- Contracts: rows of whole numbers (own work). -/
import Derived.Test.YtkonigmefmgepaaDoorW7
namespace Go.Proofs.YtkonigmefmgepaaDoor
open Go.RowKit
set_option linter.unusedVariables false
set_option linter.unusedSimpArgs false

abbrev numV (x : Int) : List Value := [IV x]
theorem numV_len (x : Int) : (numV x).length = 1 := rfl
theorem numV_one (x : Int) : ∀ u ∈ numV x, u.oneCell' = true := by
  intro u hu
  simp only [numV, List.mem_singleton] at hu
  subst hu; rfl
abbrev numC (xs : List Int) : List Value := xs.flatMap numV

section
variable {W0 : World} {l : List As} {K : Value → C} {pn : Pn}

theorem same41_c {b i : Nat} {fn x : Int} (hi : l[i]? = some (pt b 3 [IV fn])) (h : Run W0 l (K (.bool (x == fn)))) :
    Run W0 l (nextS P (callVN (.func (.func 41) #[] #[Ptr b]) #[IV x]) K pn) := by
  rw [callVN_eq]
  show Run W0 l (callS P 41 #[IV x, Ptr b] K pn)
  refine r41 ?_
  unfold S41
  refine run_ld sc3 (cl1 hi rfl) ?_
  try simp only [pureE, pureT, Nat.zero_add, Nat.reduceAdd, Bool.not_false, Bool.not_true]
  exact h

theorem indexN_c {b i n : Nat} {fn : Int} {v : Value} {xs : List Int} (hi : l[i]? = some (pt b 3 [IV fn])) (hr : Rd W0 l 1 v n (numC xs)) (hn : n ≤ 4294967296)
    (hno : fn ∉ xs → Run W0 l (K (IV (-1)))) (hat : ∀ k : Nat, k < n → xs[k]? = some fn → fn ∉ xs.take k → Run W0 l (K (IV k))) : Run W0 l (callS P 52 #[v, .func (.func 41) #[] #[Ptr b]] K pn) := by
  refine r52 ?_
  unfold S52
  have hl : xs.length = n := rd_len numV_len (by omega) hr
  obtain ⟨a, c, rfl, h1, h2, h3⟩ := hr.form
  try simp only [pureE, pureT, Nat.zero_add, Nat.reduceAdd, Bool.not_false, Bool.not_true]
  refine run_loop (Inv := fun s : Nat => s ≤ n ∧ fn ∉ xs.take s) (J := fun s => [.slice a n c, .func (.func 41) #[] #[Ptr b], IV n, IV s]) (H := fun _ => l) (μ := fun s => n - s) 0 ⟨by omega, by simp⟩ rfl (fun _ hw => hw) ?_
  rintro s e ⟨hs, hp⟩ he
  simp only [List.map_cons, List.map_nil, List.cons.injEq, and_true] at he
  obtain ⟨e0, e1, e7, e8⟩ := he
  unfold S52_l1
  simp only [e0, e1, e7, e8]
  try simp only [pureE, pureT, Nat.zero_add, Nat.reduceAdd, Bool.not_false, Bool.not_true]
  by_cases hlt : s < n
  · rw [dec_t (show (s : Int) < n by omega)]
    try simp only [pureE, pureT, Nat.zero_add, Nat.reduceAdd, Bool.not_false, Bool.not_true]
    obtain ⟨x, hx⟩ : ∃ x, xs[s]? = some x := ⟨_, List.getElem?_eq_getElem (by omega)⟩
    refine run_rd_idx un63 ty3 numV_len (by omega) hr s hx fun b o hc => ?_
    refine run_ld sc3 hc ?_
    refine same41_c hi ?_
    cases hpx : x == fn
    · try simp only [pureE, pureT, Nat.zero_add, Nat.reduceAdd, Bool.not_false, Bool.not_true]
      rw [wrN (x := (s : Int) + 1) (s + 1) (by omega) (by omega)]
      refine run_nxt (s + 1) ⟨by omega, ?_⟩ (by omega) rfl fun _ hw => hw
      rw [List.take_add_one, hx]
      simp only [Option.toList_some, List.mem_append, List.mem_singleton, not_or]
      refine ⟨hp, fun h => ?_⟩
      subst h
      simp at hpx
    · try simp only [pureE, pureT, Nat.zero_add, Nat.reduceAdd, Bool.not_false, Bool.not_true]
      have : x = fn := by simpa using hpx
      subst this
      exact hat s hlt hx hp
  · rw [dec_f (show ¬ (s : Int) < n by omega)]
    try simp only [pureE, pureT, Nat.zero_add, Nat.reduceAdd, Bool.not_false, Bool.not_true]
    rw [List.take_of_length_le (by omega)] at hp
    exact hno hp

theorem filter_id {fn : Int} {xs : List Int} (h : fn ∉ xs) : xs.filter (· != fn) = xs := by
  rw [List.filter_eq_self]
  intro a ha
  simp only [bne_iff_ne, ne_eq]
  rintro rfl
  exact h ha

theorem deleteN_c {b i j n : Nat} {fn : Int} {v : Value} {xs : List Int} (hi : l[i]? = some (pt b 3 [IV fn])) (hj : l[j]? = some (row 3 1 v n (numC xs))) (hne : i ≠ j) (hn : n ≤ 4294967296)
    (h : ∀ v', Run W0 (l.set j (row 3 1 v' (xs.filter (· != fn)).length (numC (xs.filter (· != fn))))) (K v')) : Run W0 l (callS P 40 #[v, .func (.func 41) #[] #[Ptr b]] K pn) := by
  refine r40 ?_
  unfold S40
  refine run_row_rd j hj fun hrd => ?_
  have hl : xs.length = n := rd_len numV_len (by omega) hrd
  refine indexN_c hi hrd hn (fun hno => ?_) fun k hk hxk hnk => ?_
  · try simp only [pureE, pureT, Nat.zero_add, Nat.reduceAdd, Bool.not_false, Bool.not_true]
    rw [show ((-1 : Int) == -1) = true from rfl]
    try simp only [pureE, pureT, Nat.zero_add, Nat.reduceAdd, Bool.not_false, Bool.not_true]
    have := h v
    rw [filter_id hno, hl, row_set_id j hj] at this
    exact this
  · try simp only [pureE, pureT, Nat.zero_add, Nat.reduceAdd, Bool.not_false, Bool.not_true]
    rw [show ((k : Int) == -1) = false from by simp]
    try simp only [pureE, pureT, Nat.zero_add, Nat.reduceAdd, Bool.not_false, Bool.not_true]
    rw [wrN (x := (k : Int) + 1) (k + 1) (by omega) (by omega)]
    refine run_row_cases j hj (fun _ h2 _ => absurd h2 (by omega)) fun bb cp hv hnc hcm _ => ?_
    subst hv
    have htk : (xs.take (k + 1)).filter (· != fn) = xs.take k := by
      rw [List.take_add_one, List.filter_append, filter_id hnk, hxk]
      simp
    refine run_loop (Inv := fun s : Nat × List Int => s.1 ≤ n ∧ k < s.1 ∧ s.2.length = n ∧ s.2.take ((xs.take s.1).filter (· != fn)).length = (xs.take s.1).filter (· != fn) ∧ s.2.drop s.1 = xs.drop s.1 ∧ ((xs.take s.1).filter (· != fn)).length < s.1)
      (J := fun s => [.slice (some ⟨bb, 0, none⟩) n cp, .func (.func 41) #[] #[Ptr b], IV ((xs.take s.1).filter (· != fn)).length, IV s.1])
      (H := fun s => l.set j (row 3 1 (.slice (some ⟨bb, 0, none⟩) n cp) n (numC s.2))) (μ := fun s => n - s.1) (k + 1, xs) ⟨by omega, by omega, hl, ?_, rfl, ?_⟩ ?_ (fun w hw => ?_) ?_
    · rw [htk]; simp [List.length_take]
    · rw [htk, List.length_take]; omega
    · rw [htk, List.length_take, Nat.min_eq_left (by omega)]
    · rw [row_set_id j hj]; exact hw
    rintro ⟨s, c⟩ e ⟨hs, hks, hcl, hct, hcd, hlt2⟩ he
    simp only at hs hks hcl hct hcd hlt2
    simp only [List.map_cons, List.map_nil, List.cons.injEq, and_true] at he
    obtain ⟨e0, e1, e5, e6⟩ := he
    unfold S40_l1
    simp only [e0, e1, e5, e6]
    have hi' : (l.set j (row 3 1 (.slice (some ⟨bb, 0, none⟩) n cp) n (numC c)))[i]? = some (pt b 3 [IV fn]) := by
      rw [List.getElem?_set_ne (Ne.symm hne)]; exact hi
    have hj' : (l.set j (row 3 1 (.slice (some ⟨bb, 0, none⟩) n cp) n (numC c)))[j]? = some (row 3 1 (.slice (some ⟨bb, 0, none⟩) n cp) n (numC c)) := set_get hj
    generalize hm : ((xs.take s).filter (· != fn)).length = m at *
    try simp only [pureE, pureT, Nat.zero_add, Nat.reduceAdd, Bool.not_false, Bool.not_true]
    by_cases hlt : s < n
    · rw [dec_t (show (s : Int) < n by omega)]
      try simp only [pureE, pureT, Nat.zero_add, Nat.reduceAdd, Bool.not_false, Bool.not_true]
      obtain ⟨x, hx⟩ : ∃ x, xs[s]? = some x := ⟨_, List.getElem?_eq_getElem (by omega)⟩
      have hcx : c[s]? = some x := by
        have h1 : c[s]? = (c.drop s)[0]? := by simp
        rw [h1, hcd, List.getElem?_drop, Nat.add_zero, hx]
      refine run_nx _ (fun w => pv_idx un63 ty3 (i := (s : Int)) (by omega) (by omega)) ?_
      rw [Int.toNat_natCast, Nat.zero_add]
      refine run_ld sc3 (row_at numV_len hj' hcx) ?_
      refine same41_c hi' ?_
      have hd1 : c.drop (s + 1) = xs.drop (s + 1) := by
        rw [← List.drop_drop, hcd, List.drop_drop]
      cases hpx : x == fn
      · try simp only [pureE, pureT, Nat.zero_add, Nat.reduceAdd, Bool.not_false, Bool.not_true]
        have hf1 : (xs.take (s + 1)).filter (· != fn) = (xs.take s).filter (· != fn) ++ [x] := by
          rw [List.take_add_one, List.filter_append, hx]
          simp [bne, hpx]
        refine run_nx _ (fun w => pv_idx un63 ty3 (i := (m : Int)) (by omega) (by omega)) ?_
        rw [Int.toNat_natCast, Nat.zero_add]
        refine run_st_row ty3 hj' rfl (by simp [Value.cells, Value.oneCell']) (by rw [flat_len numV_len]; omega) ?_
        rw [List.set_set]
        have hsp : splice (numC c) (m * 1) (IV x).cells.toList = numC (c.set m x) := flat_splice1 (f := numV) numV_len c x (k := m) (by omega)
        rw [hsp]
        unfold S40_k2
        try simp only [pureE, pureT, Nat.zero_add, Nat.reduceAdd, Bool.not_false, Bool.not_true]
        rw [wrN (x := (m : Int) + 1) (m + 1) (by omega) (by omega), wrN (x := (s : Int) + 1) (s + 1) (by omega) (by omega)]
        refine fun w hw => ⟨(s + 1, c.set m x), by simp only; omega, ⟨by simp only; omega, by simp only; omega, by simpa using hcl, ?_, ?_, ?_⟩, ?_, hw⟩
        · simp only [hf1, List.length_append, hm, List.length_singleton]
          rw [List.take_add_one, List.take_set, List.getElem?_set_self (by omega), List.set_eq_of_length_le (by rw [List.length_take]; omega), hct]
          rfl
        · simp only
          rw [List.drop_set_of_lt (by omega), hd1]
        · simp only [hf1, List.length_append, hm, List.length_singleton]; omega
        · simp only [hf1, List.length_append, hm, List.length_singleton]
      · try simp only [pureE, pureT, Nat.zero_add, Nat.reduceAdd, Bool.not_false, Bool.not_true]
        have hf1 : (xs.take (s + 1)).filter (· != fn) = (xs.take s).filter (· != fn) := by
          rw [List.take_add_one, List.filter_append, hx]
          simp [bne, hpx]
        unfold S40_k2
        try simp only [pureE, pureT, Nat.zero_add, Nat.reduceAdd, Bool.not_false, Bool.not_true]
        rw [wrN (x := (s : Int) + 1) (s + 1) (by omega) (by omega)]
        refine fun w hw => ⟨(s + 1, c), by simp only; omega, ⟨by simp only; omega, by simp only; omega, hcl, ?_, hd1, ?_⟩, ?_, hw⟩
        · simp only [hf1, hm]; exact hct
        · simp only [hf1, hm]; omega
        · simp only [hf1, hm]
    · rw [dec_f (show ¬ (s : Int) < n by omega)]
      try simp only [pureE, pureT, Nat.zero_add, Nat.reduceAdd, Bool.not_false, Bool.not_true]
      have hsn : xs.take s = xs := List.take_of_length_le (by omega)
      rw [hsn] at hct hm
      refine run_nx _ (fun w => pv_cutLo un63 ty3 (i := (m : Int)) (by omega) (by omega) (by omega)) ?_
      rw [Int.toNat_natCast]
      refine run_clear_cut j un63 ty3 rfl (by simp [Value.cells, Value.oneCell']) hj' (by omega) ?_
      rw [List.set_set, flat_take numV_len, hct]
      refine run_nx _ (fun w => pv_cutHi un63 ty3 (i := (m : Int)) (by omega) (by omega) (by rintro x ⟨⟩ _; rfl)) ?_
      rw [Int.toNat_natCast]
      have := h (.slice (some ⟨bb, 0, none⟩) m cp)
      rw [hm] at this
      exact this
end
end Go.Proofs.YtkonigmefmgepaaDoor
