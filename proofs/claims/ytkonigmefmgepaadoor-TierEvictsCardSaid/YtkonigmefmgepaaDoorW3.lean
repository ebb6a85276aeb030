/- Contracts: folding (own work). -/
import Derived.Test.YtkonigmefmgepaaDoorW2
namespace Go.Proofs.YtkonigmefmgepaaDoor
open Go.RowKit
set_option linter.unusedVariables false
set_option linter.unusedSimpArgs false

theorem St.nil {W0 : World} {l : List As} {w : World} (h : St W0 l w) : St W0 [] w := by
  have : l ++ [] = l := List.append_nil l
  rw [← this] at h
  exact h.drop2
theorem wrN {x : Int} (n : Nat) (h : x = n) (hb : n ≤ 4611686018427387904) : IntKind.i64.wrap x = (n : Int) := by
  rw [h]; exact wr_in (by omega)
theorem set_get {A : As} {l : List As} {i : Nat} {B : As} (hi : l[i]? = some B) : (l.set i A)[i]? = some A := by
  have := (List.getElem?_eq_some_iff.1 hi).1
  simp [this]
theorem erase_set {A : As} {l : List As} {i : Nat} : (l.set i A).eraseIdx i = l.eraseIdx i := by
  simp [List.eraseIdx_set_eq]

section
variable {W0 : World} {l : List As} {K : Value → C} {pn : Pn}

theorem repl_c {i b n c m at_ many : Nat} {bv : Value} {xs by_ : List M.Ins} (hi : l[i]? = some (row 51 3 (.slice (some ⟨b, 0, none⟩) n c) n (insC xs))) (hr : Rd W0 (l.eraseIdx i) 3 bv m (insC by_)) (hc : n ≤ c) (hcm : c ≤ maxLen)
    (hn : n ≤ 4294967296) (h0 : 0 < many) (hfit : at_ + many ≤ n) (hm : m ≤ many)
    (h : Run W0 (l.set i (row 51 3 (.slice (some ⟨b, 0, none⟩) (n - many + m) c) (n - many + m) (insC (M.repl at_ many by_ xs)))) (K (.slice (some ⟨b, 0, none⟩) (n - many + m) c))) :
    Run W0 l (callS P 81 #[.slice (some ⟨b, 0, none⟩) n c, IV at_, IV ((at_ + many : Nat) : Int), bv] K pn) := by
  refine r81 ?_
  unfold S81
  have hlen : by_.length = m := rd_len insV_len (by omega) hr
  obtain ⟨av, cv, rfl, hv1, hv2, hv3⟩ := hr.form
  refine run_row_rd i hi fun hrd => ?_
  have hxl : xs.length = n := rd_len insV_len (by omega) hrd
  have hrl : Rd W0 l 3 (.slice av m cv) m (insC by_) := hr.mono fun _ hw => hw.erase i
  have hb1 := flat_one (f := insV) insV_one by_
  refine run_nx _ (fun w => pv_cut un35 ty51 (i := (at_ : Int)) (j := ((at_ + many : Nat) : Int)) (by omega) (by omega) (by omega)) ?_
  try simp only [pureE, pureT, Nat.zero_add, Nat.reduceAdd, Bool.not_false, Bool.not_true]
  rw [show ((at_ : Int) == ((at_ + many : Nat) : Int)) = false from by simp; omega]
  try simp only [pureE, pureT, Nat.zero_add, Nat.reduceAdd, Bool.not_false, Bool.not_true]
  by_cases hend : at_ + many = n
  · rw [show (((at_ + many : Nat) : Int) == (n : Int)) = true from by simp; omega]
    try simp only [pureE, pureT, Nat.zero_add, Nat.reduceAdd, Bool.not_false, Bool.not_true]
    refine run_nx _ (fun w => pv_cutHi un35 ty51 (i := (at_ : Int)) (by omega) (by omega) (by rintro x ⟨⟩ _; rfl)) ?_
    rw [Int.toNat_natCast]
    refine run_append_in i un35 ty51 hi hrl hb1 (by omega) ?_
    rw [flat_splice insV_len, hlen]
    try simp only [pureE, pureT, Nat.zero_add, Nat.reduceAdd, Bool.not_false, Bool.not_true]
    have hsame : M.repl at_ many by_ xs = xs.take at_ ++ by_ := by
      unfold M.repl
      rw [List.drop_of_length_le (by omega), List.append_nil]
    by_cases hlt : at_ + m < n
    · rw [dec_t (show ((at_ + m : Nat) : Int) < (n : Int) by omega)]
      try simp only [pureE, pureT, Nat.zero_add, Nat.reduceAdd, Bool.not_false, Bool.not_true]
      refine run_nx _ (fun w => pv_cutLo un35 ty51 (i := ((at_ + m : Nat) : Int)) (by omega) (by omega) (by omega)) ?_
      rw [Int.toNat_natCast]
      refine run_clear_cut i un35 ty51 rfl (by simp [Value.cells, Value.oneCell']) (set_get hi) (by omega) ?_
      rw [List.set_set, flat_take insV_len]
      unfold S81_k1
      have e : (xs.take at_ ++ (by_ ++ xs.drop (at_ + m))).take (at_ + m) = xs.take at_ ++ by_ := by
        rw [← List.append_assoc, List.take_left' (by simp; omega)]
      rw [e, ← hsame]
      rw [show n - many + m = at_ + m by omega] at h
      exact h
    · rw [dec_f (show ¬ ((at_ + m : Nat) : Int) < (n : Int) by omega)]
      try simp only [pureE, pureT, Nat.zero_add, Nat.reduceAdd, Bool.not_false, Bool.not_true]
      unfold S81_k1
      have e : xs.take at_ ++ (by_ ++ xs.drop (at_ + m)) = xs.take at_ ++ by_ := by
        rw [List.drop_of_length_le (by omega), List.append_nil]
      rw [e, ← hsame]
      have e2 : n - many + m = n := by omega
      rw [e2] at h
      rw [show at_ + m = n by omega]
      exact h
  · rw [show (((at_ + many : Nat) : Int) == (n : Int)) = false from by simp; omega]
    try simp only [pureE, pureT, Nat.zero_add, Nat.reduceAdd, Bool.not_false, Bool.not_true]
    refine run_draw [] (fun _ hw => hw.nil) ?_
    refine run_px _ (fun w => pv_cutHi un35 ty51 (i := (at_ : Int)) (by omega) (by omega) (by rintro x ⟨⟩ _; rfl)) ?_
    rw [Int.toNat_natCast]
    refine run_tk _ (fun w => pv_len un35) ?_
    refine run_tk _ (fun w => pv_len un35) ?_
    try simp only [pureE, pureT, Nat.zero_add, Nat.reduceAdd, Bool.not_false, Bool.not_true]
    rw [wrN (x := (at_ : Int) + m) (at_ + m) (by omega) (by omega)]
    refine run_px _ (fun w => pv_cutLo un35 ty51 (i := ((at_ + many : Nat) : Int)) (by omega) (by omega) (by omega)) ?_
    rw [Int.toNat_natCast]
    refine run_tk _ (fun w => pv_len un35) ?_
    try simp only [pureE, pureT, Nat.zero_add, Nat.reduceAdd, Bool.not_false, Bool.not_true]
    rw [wrN (n - many + m) (by omega) (by omega)]
    refine run_nx _ (fun w => pv_cap un35) ?_
    try simp only [pureE, pureT, Nat.zero_add, Nat.reduceAdd, Bool.not_false, Bool.not_true]
    rw [dec_f (show ¬ (c : Int) < ((n - many + m : Nat) : Int) by omega)]
    try simp only [pureE, pureT, Nat.zero_add, Nat.reduceAdd, Bool.not_false, Bool.not_true]
    refine run_nx _ (fun w => pv_cutHi un35 ty51 (i := ((n - many + m : Nat) : Int)) (by omega) (by omega) (by rintro x ⟨⟩ _; rfl)) ?_
    rw [Int.toNat_natCast]
    rw [dec_t (show ((at_ + m : Nat) : Int) ≤ ((at_ + many : Nat) : Int) by omega)]
    try simp only [pureE, pureT, Nat.zero_add, Nat.reduceAdd, Bool.not_false, Bool.not_true]
    refine run_nx _ (fun w => pv_cutLo un35 ty51 (i := (at_ : Int)) (by omega) (by omega) (by omega)) ?_
    rw [Int.toNat_natCast, if_neg (show ¬ c = at_ by omega), Nat.zero_add]
    refine run_copy_row' un35 ty51 hi hrl hb1 ?_ ?_
    · rw [Nat.min_eq_left (by omega), List.length_take, flat_len insV_len, flat_len insV_len, hlen, hxl]
      have : at_ * 3 + m * 3 ≤ n * 3 := by omega
      have : min (m * 3) (m * 3) = m * 3 := Nat.min_self _
      omega
    rw [Nat.min_eq_left (show m ≤ n - many + m - at_ by omega), List.take_of_length_le (show (insC by_).length ≤ m * 3 by rw [flat_len insV_len, hlen]; exact Nat.le_refl _), flat_splice insV_len, hlen]
    refine run_draw [] (fun _ hw => hw.nil) ?_
    refine run_tk _ (fun w => pv_len un35) ?_
    try simp only [pureE, pureT, Nat.zero_add, Nat.reduceAdd, Bool.not_false, Bool.not_true]
    rw [wrN (x := (at_ : Int) + m) (at_ + m) (by omega) (by omega)]
    refine run_px _ (fun w => pv_cutLo un35 ty51 (i := ((at_ + m : Nat) : Int)) (by omega) (by omega) (by omega)) ?_
    rw [Int.toNat_natCast, if_neg (show ¬ c = at_ + m by omega), Nat.zero_add]
    refine run_px _ (fun w => pv_cutLo un35 ty51 (i := ((at_ + many : Nat) : Int)) (by omega) (by omega) (by omega)) ?_
    rw [Int.toNat_natCast]
    refine run_row_rd i (set_get hi) fun hrd1 => ?_
    have hcut := rd_cutLo (P := P) un35 ty51 insV_len (by omega) hrd1 (i := at_ + many) (by omega)
    have e1 : (xs.take at_ ++ (by_ ++ xs.drop (at_ + m))).drop (at_ + many) = xs.drop (at_ + many) := by
      rw [← List.append_assoc, List.drop_append, List.drop_of_length_le (by simp; omega), List.nil_append, List.drop_drop]
      congr 1
      simp; omega
    rw [e1] at hcut
    have hdl : (xs.drop (at_ + many)).length = n - (at_ + many) := by rw [List.length_drop, hxl]
    refine run_copy_row' un35 ty51 (set_get hi) hcut (flat_one (f := insV) insV_one _) ?_ ?_
    · rw [Nat.min_eq_left (by omega), List.length_take, flat_len insV_len, flat_len insV_len, hdl]
      simp only [List.length_append, List.length_take, List.length_drop, hxl, hlen]
      have : min ((n - (at_ + many)) * 3) ((n - (at_ + many)) * 3) = (n - (at_ + many)) * 3 := Nat.min_self _
      omega
    rw [Nat.min_eq_left (show n - (at_ + many) ≤ n - many + m - (at_ + m) by omega), List.take_of_length_le (show (insC (xs.drop (at_ + many))).length ≤ (n - (at_ + many)) * 3 by rw [flat_len insV_len, hdl]; exact Nat.le_refl _), List.set_set, flat_splice insV_len]
    refine run_and (fun _ hw => hw.nil) ?_
    refine run_nx _ (fun w => pv_cutLo un35 ty51 (i := ((n - many + m : Nat) : Int)) (by omega) (by omega) (by omega)) ?_
    rw [Int.toNat_natCast]
    refine run_clear_cut i un35 ty51 rfl (by simp [Value.cells, Value.oneCell']) (set_get hi) (by omega) ?_
    rw [List.set_set, flat_take insV_len]
    have e : ((xs.take at_ ++ (by_ ++ xs.drop (at_ + m))).take (at_ + m) ++ (xs.drop (at_ + many) ++ (xs.take at_ ++ (by_ ++ xs.drop (at_ + m))).drop (at_ + m + (xs.drop (at_ + many)).length))).take (n - many + m) = M.repl at_ many by_ xs := by
      unfold M.repl
      have ea : (xs.take at_ ++ (by_ ++ xs.drop (at_ + m))).take (at_ + m) = xs.take at_ ++ by_ := by
        rw [← List.append_assoc, List.take_left' (by simp; omega)]
      rw [ea, ← List.append_assoc (xs.take at_ ++ by_), List.take_left' (by simp only [List.length_append, List.length_take, hxl, hlen, hdl]; omega), List.append_assoc]
    rw [e]
    exact h
end
end Go.Proofs.YtkonigmefmgepaaDoor
