/- Contracts: the laws' helpers (own work). -/
import Derived.Test.YtkonigmefmgepaaDoorW14
namespace Go.Proofs.YtkonigmefmgepaaDoor
open Go.RowKit
set_option linter.unusedVariables false
set_option linter.unusedSimpArgs false

/-- Code that is owned. -/
def codePs (cv : Value) (fs : List M.Fn) (gs : List FG) : List As := [row 46 5 cv gs.length (gs.flatMap fnG), big (gs.map fRow), pur (gs.map (·.1) = fs)]
def codeA (cv : Value) (fs : List M.Fn) : As := obj (codePs cv fs)

section
variable {W0 : World} {l : List As} {K : Value → C} {pn : Pn}

theorem pair_c (h : ∀ cv, Run W0 (codeA cv M.pairM :: l) (K (.agg #[cv]))) : Run W0 l (callS P 16 #[] K pn) := by
  refine r16 ?_
  unfold S16
  refine run_alloc ty24 fun b0 => ?_
  refine run_nx (insA ⟨2, 0, 0⟩) (fun w => by kernel_rfl) ?_
  refine run_nx (insA ⟨1, 0, 3⟩) (fun w => by kernel_rfl) ?_
  refine run_nx (insA ⟨8, 0, 0⟩) (fun w => by kernel_rfl) ?_
  refine run_nx (insA ⟨18, 0, 0⟩) (fun w => by kernel_rfl) ?_
  refine run_buildSlice (insC [⟨2, 0, 0⟩, ⟨1, 0, 3⟩, ⟨8, 0, 0⟩, ⟨18, 0, 0⟩]) un35 ty51 (by omega) (by omega) (by kernel_rfl) fun b6 => ?_
  refine run_nx (insA ⟨1, 0, 0⟩) (fun w => by kernel_rfl) ?_
  refine run_nx (insA ⟨18, 0, 0⟩) (fun w => by kernel_rfl) ?_
  refine run_buildSlice (insC [⟨1, 0, 0⟩, ⟨18, 0, 0⟩]) un35 ty51 (by omega) (by omega) (by kernel_rfl) fun b9 => ?_
  let f0 : M.Fn := ⟨⟨#[]⟩, 0, 0, 0, [⟨1, 0, 0⟩, ⟨18, 0, 0⟩]⟩
  let f1 : M.Fn := ⟨⟨#[102]⟩, 1, 1, 0, [⟨2, 0, 0⟩, ⟨1, 0, 3⟩, ⟨8, 0, 0⟩, ⟨18, 0, 0⟩]⟩
  refine run_nx (fnA f0 (.slice (some ⟨b9, 0, none⟩) 2 2)) (fun w => by kernel_rfl) ?_
  refine run_nx (fnA f1 (.slice (some ⟨b6, 0, none⟩) 4 4)) (fun w => by kernel_rfl) ?_
  let gs : List FG := [(f0, .slice (some ⟨b9, 0, none⟩) 2 2), (f1, .slice (some ⟨b6, 0, none⟩) 4 4)]
  refine run_buildSlice (gs.flatMap fnG) un22 ty46 (by omega) (by omega) (by kernel_rfl) fun b13 => ?_
  refine run_nx (.agg #[.slice (some ⟨b13, 0, none⟩) 2 2]) (fun w => by kernel_rfl) ?_
  refine run_st ty24 (i := 3) rfl rfl (by simp [Value.cells, Value.oneCell']) (by simp [Value.cells]) ?_
  refine run_cell ag24 ty24 (xs := [.slice (some ⟨b13, 0, none⟩) 2 2]) rfl (cl_all (i := 3) rfl) ?_
  refine run_rowOfPt 0 5 2 rfl (by simp [gs, fnG, fnV]) (by unfold maxLen; omega) ?_
  refine run_rowOfPt 1 3 2 rfl (by simp [insC, insV]) (by unfold maxLen; omega) ?_
  refine run_rowOfPt 2 3 4 rfl (by simp [insC, insV]) (by unfold maxLen; omega) ?_
  refine run_erase 3 ?_
  refine run_to (codePs (.slice (some ⟨b13, 0, none⟩) 2 2) M.pairM gs ++ l) (fun w hw => ?_) (run_pack _ (h _))
  have h1 : St W0 ([fRow (f0, .slice (some ⟨b9, 0, none⟩) 2 2), fRow (f1, .slice (some ⟨b6, 0, none⟩) 4 4)] ++ (row 46 5 (.slice (some ⟨b13, 0, none⟩) 2 2) 2 (gs.flatMap fnG) :: l)) w := (hw.front 2).front 2
  have h2 := h1.pack (A' := big (gs.map fRow)) fun F hs => hs
  have h3 : St W0 (pur (gs.map (·.1) = M.pairM) :: big (gs.map fRow) :: row 46 5 (.slice (some ⟨b13, 0, none⟩) 2 2) 2 (gs.flatMap fnG) :: l) w := h2.new ⟨rfl, rfl, rfl, Nat.le_refl _, fun _ _ _ => rfl⟩ (fun _ => False) (fun _ hx => hx.elim) rfl
  exact ((h3.front 1).front 2 : St W0 _ w)

theorem part0 (a b : Int) (w : World) : (part 3 #[IV a, IV b] 0).run P w = .ok (IV a) w := by kernel_rfl
theorem part1 (a b : Int) (w : World) : (part 3 #[IV a, IV b] 1).run P w = .ok (IV b) w := by kernel_rfl
theorem eqEv (a b c d : Int) (w : World) : (Op.equal 44 (.agg #[IV a, IV b]) (.agg #[IV c, IV d])).run P w = .ok (a == c && b == d) w := by
  have e3 : ∀ (a c : Int), (Op.equalIn 9999 3 (IV a) (IV c)).run P w = .ok (a == c) w := by
    intro a c
    rw [show 9999 = 9998 + 1 from rfl, Op.equalIn]
    simp [run_underlying un3]
  show (Op.equalIn (9999 + 1) 44 _ _).run P w = _
  rw [Op.equalIn]
  cases h1 : a == c <;> cases h2 : b == d <;> simp [e3, h1, h2, part0, part1]
theorem pv_neqEv {x y : Operand} (a b c d : Int) (w : World) : (binN .neq 44 x y (.agg #[IV a, IV b]) (.agg #[IV c, IV d])).run P w = .ok (.value (.bool !(a == c && b == d))) w := by
  simp [binN, eqGuard, binOp, eqEv]
theorem pv_eqlEv {x y : Operand} (a b c d : Int) (w : World) : (binN .eql 44 x y (.agg #[IV a, IV b]) (.agg #[IV c, IV d])).run P w = .ok (.value (.bool (a == c && b == d))) w := by
  simp [binN, eqGuard, binOp, eqEv]

/-- Two rows of events, held against each other. -/
theorem events2_c {v1 v2 : Value} {n1 n2 : Nat} {xs ys : List (Int × Int)} (h1 : Rd W0 l 2 v1 n1 (xs.flatMap evV)) (h2 : Rd W0 l 2 v2 n2 (ys.flatMap evV)) (hn : n1 ≤ 4294967296)
    (h : Run W0 l (K (.bool (decide (xs = ys))))) : Run W0 l (callS P 14 #[v1, v2] K pn) := by
  refine r14 ?_
  unfold S14
  have hl1 : xs.length = n1 := rd_len evV_len (by omega) h1
  have hl2 : ys.length = n2 := rd_len evV_len (by omega) h2
  obtain ⟨a1, c1, rfl, _, _, _⟩ := h1.form
  obtain ⟨a2, c2, rfl, _, _, _⟩ := h2.form
  try simp only [pureE, pureT, Nat.zero_add, Nat.reduceAdd, Bool.not_false, Bool.not_true]
  by_cases hne : n1 = n2
  case neg =>
    rw [show ((n1 : Int) != (n2 : Int)) = true from by simp; omega]
    try simp only [pureE, pureT, Nat.zero_add, Nat.reduceAdd, Bool.not_false, Bool.not_true]
    rw [decide_eq_false (fun e => hne (by rw [← hl1, ← hl2, e]))] at h
    exact h
  subst hne
  rw [show ((n1 : Int) != (n1 : Int)) = false from by simp]
  try simp only [pureE, pureT, Nat.zero_add, Nat.reduceAdd, Bool.not_false, Bool.not_true]
  refine run_loop (Inv := fun s : Nat => s ≤ n1 ∧ xs.take s = ys.take s) (J := fun s => [.slice a1 n1 c1, .slice a2 n1 c2, IV s]) (H := fun _ => l) (μ := fun s => n1 - s) 0 ⟨by omega, by simp⟩ rfl (fun _ hw => hw) ?_
  rintro s e ⟨hs, hp⟩ he
  simp only [List.map_cons, List.map_nil, List.cons.injEq, and_true] at he
  obtain ⟨e0, e1, e5⟩ := he
  unfold S14_l1
  simp only [e0, e1, e5]
  try simp only [pureE, pureT, Nat.zero_add, Nat.reduceAdd, Bool.not_false, Bool.not_true]
  by_cases hlt : s < n1
  · rw [dec_t (show (s : Int) < n1 by omega)]
    try simp only [pureE, pureT, Nat.zero_add, Nat.reduceAdd, Bool.not_false, Bool.not_true]
    obtain ⟨x, hx⟩ : ∃ x, xs[s]? = some x := ⟨_, List.getElem?_eq_getElem (by omega)⟩
    obtain ⟨y, hy⟩ : ∃ y, ys[s]? = some y := ⟨_, List.getElem?_eq_getElem (by omega)⟩
    refine run_draw l (fun _ hw => hw) ?_
    refine run_rd_idxP un40 ty44 evV_len (by omega) h1 s hx fun b o hc => ?_
    refine take_lda ag44 ty44 rfl hc ?_
    refine run_rd_idxP un40 ty44 evV_len (by omega) h2 s hy fun b2 o2 hc2 => ?_
    refine take_lda ag44 ty44 rfl hc2 ?_
    refine run_px _ (pv_neqEv x.1 x.2 y.1 y.2) ?_
    cases hq : (x.1 == y.1 && x.2 == y.2)
    · try simp only [pureE, pureT, Nat.zero_add, Nat.reduceAdd, Bool.not_false, Bool.not_true]
      have hxy : xs ≠ ys := by
        rintro rfl
        rw [hx] at hy
        simp only [Option.some.injEq] at hy
        subst hy
        simp at hq
      rw [decide_eq_false hxy] at h
      exact h
    · try simp only [pureE, pureT, Nat.zero_add, Nat.reduceAdd, Bool.not_false, Bool.not_true]
      rw [wrN (x := (s : Int) + 1) (s + 1) (by omega) (by omega)]
      have hxy : x = y := by
        simp only [Bool.and_eq_true, beq_iff_eq] at hq
        exact Prod.ext hq.1 hq.2
      exact fun w hw => ⟨s + 1, by omega, ⟨by omega, by rw [List.take_add_one, List.take_add_one, hp, hx, hy, hxy]⟩, rfl, hw⟩
  · rw [dec_f (show ¬ (s : Int) < n1 by omega)]
    try simp only [pureE, pureT, Nat.zero_add, Nat.reduceAdd, Bool.not_false, Bool.not_true]
    rw [List.take_of_length_le (by omega), List.take_of_length_le (by omega)] at hp
    rw [decide_eq_true hp] at h
    exact h
end
end Go.Proofs.YtkonigmefmgepaaDoor
