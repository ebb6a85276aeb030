/- Contracts: the folder's methods (own work). -/
import Derived.Test.YtkonigmefmgepaaDoorW3
namespace Go.Proofs.YtkonigmefmgepaaDoor
open Go.RowKit
set_option linter.unusedVariables false
set_option linter.unusedSimpArgs false

abbrev Ptr (b : Nat) : Value := .pointer (some ⟨b, 0, none⟩)
def foldA (fb : Nat) (xs : List M.Ins) : As := obj fun (v : Value) => [pt fb 137 [v], row 51 3 v xs.length (insC xs)]

theorem set_self {α : Type} {xs : List α} {s : Nat} {x : α} (h : xs[s]? = some x) : xs.set s x = xs := by
  obtain ⟨hlt, he⟩ := List.getElem?_eq_some_iff.1 h
  subst he
  exact List.set_getElem_self hlt
theorem repl_len {at_ many : Nat} {by_ xs : List M.Ins} (h : at_ + many ≤ xs.length) : (M.repl at_ many by_ xs).length = xs.length - many + by_.length := by
  unfold M.repl
  simp only [List.length_append, List.length_take, List.length_drop]
  omega

section
variable {W0 : World} {l : List As} {K : Value → C} {pn : Pn}

theorem replace_c {i fb m at_ many : Nat} {bv : Value} {xs by_ : List M.Ins} (hi : l[i]? = some (foldA fb xs)) (hr : Rd W0 (l.eraseIdx i) 3 bv m (insC by_))
    (hn : xs.length ≤ 4294967296) (h0 : 0 < many) (hfit : at_ + many ≤ xs.length) (hm : m ≤ many)
    (h : Run W0 (l.set i (foldA fb (M.replace at_ many by_ xs))) (K (.tuple #[]))) :
    Run W0 l (callS P 76 #[Ptr fb, IV at_, IV many, bv] K pn) := by
  refine r76 ?_
  unfold S76
  have hlen : by_.length = m := rd_len insV_len (by omega) hr
  refine run_open i hi fun v => ?_
  refine run_row_cases 1 rfl (fun _ h2 _ => absurd h2 (by omega)) fun b cp hv hnc hcm _ => ?_
  subst hv
  try simp only [pureE, pureT, Nat.zero_add, Nat.reduceAdd, Bool.not_false, Bool.not_true]
  refine run_ld sc35 (cl1 (i := 0) rfl rfl) ?_
  rw [wrN (x := (at_ : Int) + many) (at_ + many) (by omega) (by omega)]
  refine repl_c (i := 1) (m := m) rfl (hr.mono fun _ hw => hw.tail) hnc hcm hn h0 hfit hm ?_
  try simp only [pureE, pureT, Nat.zero_add, Nat.reduceAdd, Bool.not_false, Bool.not_true]
  refine run_st ty35 (i := 0) rfl rfl (by simp [Value.cells, Value.oneCell']) (by simp) ?_
  refine run_ld sc35 (cl1 (i := 0) rfl rfl) ?_
  try simp only [pureE, pureT, Nat.zero_add, Nat.reduceAdd, Bool.not_false, Bool.not_true]
  have hyl : (M.repl at_ many by_ xs).length = xs.length - many + m := by rw [repl_len hfit, hlen]
  generalize hys : M.repl at_ many by_ xs = ys at *
  generalize hn' : xs.length - many + m = n' at *
  obtain ⟨av, cv, rfl, hv1, hv2, hv3⟩ := hr.form
  refine run_loop (Inv := fun s : Nat => s ≤ n') (J := fun s => [Ptr fb, IV at_, IV many, .slice av m cv, IV n', IV s])
    (H := fun s => pt fb 137 [.slice (some ⟨b, 0, none⟩) n' cp] :: row 51 3 (.slice (some ⟨b, 0, none⟩) n' cp) n' (insC ((ys.take s).map (M.fix at_ many m) ++ ys.drop s)) :: l.eraseIdx i) (μ := fun s => n' - s) 0 (by omega) rfl ?_ ?_
  · intro w hw
    exact hw
  intro s e hs he
  simp only [List.map_cons, List.map_nil, List.cons.injEq, and_true] at he
  obtain ⟨e0, e1, e2, e3, e27, e28⟩ := he
  unfold S76_l1
  simp only [e0, e1, e2, e3, e27, e28]
  try simp only [pureE, pureT, Nat.zero_add, Nat.reduceAdd, Bool.not_false, Bool.not_true]
  by_cases hlt : s < n'
  · rw [dec_t (show (s : Int) < n' by omega)]
    try simp only [pureE, pureT, Nat.zero_add, Nat.reduceAdd, Bool.not_false, Bool.not_true]
    obtain ⟨x, hx⟩ : ∃ x, ys[s]? = some x := ⟨_, List.getElem?_eq_getElem (by omega)⟩
    have hx' := map_at (M.fix at_ many m) hx
    have hst := map_step (M.fix at_ many m) hx
    refine run_ld sc35 (cl1 (i := 0) rfl rfl) ?_
    refine run_nx _ (fun w => pv_idx un35 ty51 (i := (s : Int)) (by omega) (by omega)) ?_
    rw [Int.toNat_natCast]
    try simp only [pureE, pureT, Nat.zero_add, Nat.reduceAdd, Bool.not_false, Bool.not_true]
    have hcl := row_at (W0 := W0) (l := pt fb 137 [.slice (some ⟨b, 0, none⟩) n' cp] :: row 51 3 (.slice (some ⟨b, 0, none⟩) n' cp) n' (insC ((ys.take s).map (M.fix at_ many m) ++ ys.drop s)) :: l.eraseIdx i) (i := 1) insV_len rfl hx'
    refine run_lda ag51 ty51 rfl hcl ?_
    refine jumps_c ?_
    have next : ∀ c, (c = (ys.take (s + 1)).map (M.fix at_ many m) ++ ys.drop (s + 1)) → Run W0 (pt fb 137 [.slice (some ⟨b, 0, none⟩) n' cp] :: row 51 3 (.slice (some ⟨b, 0, none⟩) n' cp) n' (insC c) :: l.eraseIdx i)
        (S76_k2 (fun vs' w' => ∃ s', n' - s' < n' - s ∧ s' ≤ n' ∧ [Ptr fb, IV at_, IV many, .slice av m cv, IV n', IV (s' : Nat)] = vs' ∧ St W0 (pt fb 137 [.slice (some ⟨b, 0, none⟩) n' cp] :: row 51 3 (.slice (some ⟨b, 0, none⟩) n' cp) n' (insC ((ys.take s').map (M.fix at_ many m) ++ ys.drop s')) :: l.eraseIdx i) w')
          K pn (Ptr fb) (IV at_) (IV many) (.slice av m cv) (IV n') (IV s)) := by
      rintro c rfl
      unfold S76_k2
      try simp only [pureE, pureT, Nat.zero_add, Nat.reduceAdd, Bool.not_false, Bool.not_true]
      rw [wrN (x := (s : Int) + 1) (s + 1) (by omega) (by omega)]
      exact fun w hw => ⟨s + 1, by omega, by omega, rfl, hw⟩
    cases hj : M.jumps x
    · try simp only [pureE, pureT, Nat.zero_add, Nat.reduceAdd, Bool.not_false, Bool.not_true]
      refine next _ ?_
      rw [← hst]
      have : M.fix at_ many m x = x := by simp [M.fix, hj]
      rw [this, set_self hx']
    · try simp only [pureE, pureT, Nat.zero_add, Nat.reduceAdd, Bool.not_false, Bool.not_true]
      refine run_ld sc3 (hcl.fld (k := 1) rfl) ?_
      try simp only [pureE, pureT, Nat.zero_add, Nat.reduceAdd, Bool.not_false, Bool.not_true]
      cases hg : decide ((at_ : Int) < x.a)
      · try simp only [pureE, pureT, Nat.zero_add, Nat.reduceAdd, Bool.not_false, Bool.not_true]
        refine next _ ?_
        rw [← hst]
        have : M.fix at_ many m x = x := by simp [M.fix, hj, hg]
        rw [this, set_self hx']
      · try simp only [pureE, pureT, Nat.zero_add, Nat.reduceAdd, Bool.not_false, Bool.not_true]
        refine run_ld sc3 (hcl.fld (k := 1) rfl) ?_
        try simp only [pureE, pureT, Nat.zero_add, Nat.reduceAdd, Bool.not_false, Bool.not_true]
        rw [wrN (x := (at_ : Int) + m) (at_ + m) (by omega) (by omega)]
        refine run_st_row ty3 (i := 1) rfl rfl (by simp [Value.cells, Value.oneCell']) ?_ ?_
        · rw [flat_len insV_len]
          simp only [List.length_append, List.length_map, List.length_take, List.length_drop]
          omega
        refine Run.of (next _ hst) fun w hw => ?_
        have hf := flat_set (f := insV) insV_len (k := 1) (y := M.fix at_ many m x) (u := IV (max (M.w64 (M.w64 (x.a - many) + m)) ((at_ + m : Nat) : Int))) (by omega) (by simp [M.fix, hj, hg, insV]) hx'
        rw [insC, ← hf]
        exact hw
  · rw [dec_f (show ¬ (s : Int) < n' by omega)]
    try simp only [pureE, pureT, Nat.zero_add, Nat.reduceAdd, Bool.not_false, Bool.not_true]
    have hsn : s = n' := by omega
    have hfin : (ys.take s).map (M.fix at_ many m) ++ ys.drop s = M.replace at_ many by_ xs := by
      rw [List.take_of_length_le (by omega), List.drop_of_length_le (by omega), List.append_nil, M.replace, hys, hlen]
    rw [hfin]
    have hl' : (M.replace at_ many by_ xs).length = n' := by rw [M.replace, List.length_map, hys, hyl]
    rw [← hl']
    exact run_shut (ps := fun (v : Value) => [pt fb 137 [v], row 51 3 v (M.replace at_ many by_ xs).length (insC (M.replace at_ many by_ xs))]) l i _ hi h
end
end Go.Proofs.YtkonigmefmgepaaDoor
