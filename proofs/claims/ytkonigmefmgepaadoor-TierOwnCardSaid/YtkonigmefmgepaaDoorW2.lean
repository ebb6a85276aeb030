/- Contracts: copies, searches (own work). -/
import Derived.Test.YtkonigmefmgepaaDoorW1
namespace Go.Proofs.YtkonigmefmgepaaDoor
open Go.RowKit
set_option linter.unusedVariables false
set_option linter.unusedSimpArgs false
section
variable {W0 : World} {l : List As} {K : Value → C} {pn : Pn}

theorem cloneIns_c {v : Value} {n : Nat} {xs : List Value} (hr : Rd W0 l 3 v n xs) (h1 : ∀ u ∈ xs, u.oneCell' = true) (hm : n ≤ 4294967296)
    (h : ∀ v', nilS v' = nilS v → Run W0 (row 51 3 v' n xs :: l) (K v')) : Run W0 l (callS P 19 #[v] K pn) := by
  refine r19 ?_
  unfold S19
  rcases hr.2 with ⟨c, rfl, rfl⟩ | ⟨a, c, rfl, h2, h3, h4⟩
  · have : xs = [] := by simpa using hr.1
    subst this
    refine run_nx (.bool true) (fun w => pv_eqlSN un35) ?_
    try simp only [pureE, pureT, Nat.zero_add, Nat.reduceAdd, Bool.not_false, Bool.not_true]
    exact run_rowNil 51 3 (h _ rfl)
  · refine run_nx (.bool false) (fun w => pv_eqlSN un35) ?_
    try simp only [pureE, pureT, Nat.zero_add, Nat.reduceAdd, Bool.not_false, Bool.not_true]
    refine run_buildSlice0 un35 ty51 fun b => ?_
    refine run_rowOfPt 0 3 0 rfl (by simp) (by unfold maxLen; omega) ?_
    refine run_append 0 un35 ty51 rfl rfl (hr.mono fun _ hw => hw.tail) h1 (by unfold maxLen; omega) (by omega) (by omega) fun v' hv' => ?_
    refine Run.of (h v' ?_) fun w hw => ?_
    · cases hq : nilS v' with
      | false => rfl
      | true => exact absurd (hv' hq) (by simp [nilS])
    · simpa using hw

theorem cloneBool_c {v : Value} {n : Nat} {xs : List Value} (hr : Rd W0 l 1 v n xs) (h1 : ∀ u ∈ xs, u.oneCell' = true) (hm : n ≤ 140737488355328)
    (h : ∀ v', nilS v' = nilS v → Run W0 (row 4 1 v' n xs :: l) (K v')) : Run W0 l (callS P 20 #[v] K pn) := by
  refine r20 ?_
  unfold S20
  rcases hr.2 with ⟨c, rfl, rfl⟩ | ⟨a, c, rfl, h2, h3, h4⟩
  · have : xs = [] := by simpa using hr.1
    subst this
    refine run_nx (.bool true) (fun w => pv_eqlSN un34) ?_
    try simp only [pureE, pureT, Nat.zero_add, Nat.reduceAdd, Bool.not_false, Bool.not_true]
    exact run_rowNil 4 1 (h _ rfl)
  · refine run_nx (.bool false) (fun w => pv_eqlSN un34) ?_
    try simp only [pureE, pureT, Nat.zero_add, Nat.reduceAdd, Bool.not_false, Bool.not_true]
    refine run_buildSlice0 un34 ty4 fun b => ?_
    refine run_rowOfPt 0 1 0 rfl (by simp) (by unfold maxLen; omega) ?_
    refine run_append 0 un34 ty4 rfl rfl (hr.mono fun _ hw => hw.tail) h1 (by unfold maxLen; omega) (by omega) (by omega) fun v' hv' => ?_
    refine Run.of (h v' ?_) fun w hw => ?_
    · cases hq : nilS v' with
      | false => rfl
      | true => exact absurd (hv' hq) (by simp [nilS])
    · simpa using hw

theorem cloneEv_c {v : Value} {n : Nat} {xs : List Value} (hr : Rd W0 l 2 v n xs) (h1 : ∀ u ∈ xs, u.oneCell' = true) (hm : n ≤ 4294967296)
    (h : ∀ v', nilS v' = nilS v → Run W0 (row 44 2 v' n xs :: l) (K v')) : Run W0 l (callS P 30 #[v] K pn) := by
  refine r30 ?_
  unfold S30
  rcases hr.2 with ⟨c, rfl, rfl⟩ | ⟨a, c, rfl, h2, h3, h4⟩
  · have : xs = [] := by simpa using hr.1
    subst this
    refine run_nx (.bool true) (fun w => pv_eqlSN un40) ?_
    try simp only [pureE, pureT, Nat.zero_add, Nat.reduceAdd, Bool.not_false, Bool.not_true]
    exact run_rowNil 44 2 (h _ rfl)
  · refine run_nx (.bool false) (fun w => pv_eqlSN un40) ?_
    try simp only [pureE, pureT, Nat.zero_add, Nat.reduceAdd, Bool.not_false, Bool.not_true]
    refine run_buildSlice0 un40 ty44 fun b => ?_
    refine run_rowOfPt 0 2 0 rfl (by simp) (by unfold maxLen; omega) ?_
    refine run_append 0 un40 ty44 rfl rfl (hr.mono fun _ hw => hw.tail) h1 (by unfold maxLen; omega) (by omega) (by omega) fun v' hv' => ?_
    refine Run.of (h v' ?_) fun w hw => ?_
    · cases hq : nilS v' with
      | false => rfl
      | true => exact absurd (hv' hq) (by simp [nilS])
    · simpa using hw

theorem insV_len (x : M.Ins) : (insV x).length = 3 := rfl
theorem insV_one (x : M.Ins) : ∀ u ∈ insV x, u.oneCell' = true := by
  intro u hu
  simp only [insV, List.mem_cons, List.not_mem_nil, or_false] at hu
  rcases hu with rfl | rfl | rfl <;> rfl
abbrev insC (xs : List M.Ins) : List Value := xs.flatMap insV

theorem index_c {p : M.Ins → Bool} {v fv : Value} {n : Nat} {xs : List M.Ins} (hr : Rd W0 l 3 v n (insC xs)) (hn : n ≤ 4294967296)
    (hf : ∀ (x : M.Ins) (K : Value → C) (pn : Pn), Run W0 l (K (.bool (p x))) → Run W0 l (nextS P (callVN fv #[insA x]) K pn))
    (h : ∀ r : Int, (decide (0 ≤ r) = xs.any p) → Run W0 l (K (IV r))) : Run W0 l (callS P 75 #[v, fv] K pn) := by
  refine r75 ?_
  unfold S75
  have hl : xs.length = n := rd_len insV_len (by omega) hr
  obtain ⟨a, c, rfl, h1, h2, h3⟩ := hr.form
  try simp only [pureE, pureT, Nat.zero_add, Nat.reduceAdd, Bool.not_false, Bool.not_true]
  refine run_loop (Inv := fun s : Nat => s ≤ n ∧ (xs.take s).any p = false) (J := fun s => [.slice a n c, fv, IV n, IV s]) (H := fun _ => l) (μ := fun s => n - s) 0 ⟨by omega, by simp⟩ rfl (fun _ hw => hw) ?_
  rintro s e ⟨hs, hp⟩ he
  simp only [List.map_cons, List.map_nil, List.cons.injEq, and_true] at he
  obtain ⟨e0, e1, e7, e8⟩ := he
  unfold S75_l1
  simp only [e0, e1, e7, e8]
  try simp only [pureE, pureT, Nat.zero_add, Nat.reduceAdd, Bool.not_false, Bool.not_true]
  by_cases hlt : s < n
  · rw [dec_t (show (s : Int) < n by omega)]
    try simp only [pureE, pureT, Nat.zero_add, Nat.reduceAdd, Bool.not_false, Bool.not_true]
    obtain ⟨x, hx⟩ : ∃ x, xs[s]? = some x := ⟨_, List.getElem?_eq_getElem (by omega)⟩
    have htk : (xs.take (s + 1)).any p = p x := by
      rw [List.take_add_one, List.any_append, hp, hx]; simp
    refine run_rd_idx un35 ty51 insV_len (by omega) hr s hx fun b o hc => ?_
    refine run_lda ag51 ty51 rfl hc ?_
    refine hf x _ _ ?_
    cases hpx : p x
    · try simp only [pureE, pureT, Nat.zero_add, Nat.reduceAdd, Bool.not_false, Bool.not_true]
      refine run_nxt (s + 1) ⟨by omega, by rw [htk, hpx]⟩ (by omega) ?_ fun _ hw => hw
      rw [show IntKind.i64.wrap ((s : Int) + 1) = ((s + 1 : Nat) : Int) from (wr_in (by omega)).trans (by omega)]
    · try simp only [pureE, pureT, Nat.zero_add, Nat.reduceAdd, Bool.not_false, Bool.not_true]
      refine h s ?_
      have : xs.any p = true := by
        rw [← List.take_append_drop (s + 1) xs, List.any_append, htk, hpx]; rfl
      rw [this]
      exact dec_t (by omega)
  · rw [dec_f (show ¬ (s : Int) < n by omega)]
    try simp only [pureE, pureT, Nat.zero_add, Nat.reduceAdd, Bool.not_false, Bool.not_true]
    refine h (-1) ?_
    rw [List.take_of_length_le (by omega)] at hp
    rw [hp]
    rfl

theorem contains_c {p : M.Ins → Bool} {v fv : Value} {n : Nat} {xs : List M.Ins} (hr : Rd W0 l 3 v n (insC xs)) (hn : n ≤ 4294967296)
    (hf : ∀ (x : M.Ins) (K : Value → C) (pn : Pn), Run W0 l (K (.bool (p x))) → Run W0 l (nextS P (callVN fv #[insA x]) K pn))
    (h : Run W0 l (K (.bool (xs.any p)))) : Run W0 l (callS P 65 #[v, fv] K pn) := by
  refine r65 ?_
  unfold S65
  refine index_c hr hn hf fun r hr' => ?_
  try simp only [pureE, pureT, Nat.zero_add, Nat.reduceAdd, Bool.not_false, Bool.not_true]
  rw [hr']
  exact h

/-- The search for a jump to a place. -/
theorem freeF_c {b i : Nat} {T : TypeId} {at_ : Int} (hi : l[i]? = some (pt b T [IV at_])) (x : M.Ins) (K : Value → C) (pn : Pn) (h : Run W0 l (K (.bool (M.jumps x && x.a == at_)))) :
    Run W0 l (nextS P (callVN (.func (.func 83) #[] #[.pointer (some ⟨b, 0, none⟩)]) #[insA x]) K pn) := by
  rw [callVN_eq]
  refine r83 ?_
  unfold S83
  refine run_box fun bb => ?_
  refine run_lda ag51 ty51 rfl (.pt (i := 0) rfl 0 (insV x) fun j v hj => by rw [Nat.zero_add]; exact hj) ?_
  refine jumps_c ?_
  cases hj : M.jumps x
  · try simp only [pureE, pureT, Nat.zero_add, Nat.reduceAdd, Bool.not_false, Bool.not_true]
    exact run_drop (by simpa [hj] using h)
  · try simp only [pureE, pureT, Nat.zero_add, Nat.reduceAdd, Bool.not_false, Bool.not_true]
    refine run_ld sc3 (cl1 (i := 0) rfl rfl) ?_
    refine run_ld sc3 (cl1 (i := i + 1) (by simpa using hi) rfl) ?_
    try simp only [pureE, pureT, Nat.zero_add, Nat.reduceAdd, Bool.not_false, Bool.not_true]
    exact run_drop (by simpa [hj] using h)
theorem fixF_c {b i : Nat} {T : TypeId} {p : Int} (hi : l[i]? = some (pt b T [IV p])) (x : M.Ins) (K : Value → C) (pn : Pn) (h : Run W0 l (K (.bool (M.sets x p)))) :
    Run W0 l (nextS P (callVN (.func (.func 66) #[] #[.pointer (some ⟨b, 0, none⟩)]) #[insA x]) K pn) := by
  rw [callVN_eq]
  refine r66 ?_
  unfold S66
  refine run_box fun bb => ?_
  refine run_lda ag51 ty51 rfl (.pt (i := 0) rfl 0 (insV x) fun j v hj => by rw [Nat.zero_add]; exact hj) ?_
  refine run_ld sc3 (cl1 (i := i + 1) (by simpa using hi) rfl) ?_
  refine sets_c ?_
  exact run_drop h
end
end Go.Proofs.YtkonigmefmgepaaDoor
