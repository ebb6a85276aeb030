/- The law TierEvicts, walked (own work). -/
import Derived.Test.YtkonigmefmgepaaDoorSE
namespace Go.Proofs.YtkonigmefmgepaaDoor
open Go.RowKit
set_option linter.unusedVariables false
set_option linter.unusedSimpArgs false
set_option maxRecDepth 10000

/-- The code that grows. -/
def evPs (b6 s : Nat) (x : Value × List FG) : List As := [pt b6 24 [x.1], row 46 5 x.1 x.2.length (x.2.flatMap fnG), big (x.2.map fRow), pur (fnsOf x.2 = M.pairM.take 1 ++ (List.range s).flatMap fun _ => M.pairM.drop 1)]
def evA (b6 s : Nat) : As := obj (evPs b6 s)

section
variable {W0 : World} {l : List As} {K : Value → C} {pn : Pn}

theorem evPush {R A0 A1 : As} {ps : List As} {A3 A4 : As} {w : World} (h0 : St W0 [R, A0, A1, big ps, A3, A4] w) : St W0 [A0, A1, big (ps ++ [R]), A3, A4] w := by
  have h1 : St W0 [big ps, R, A0, A1, A3, A4] w := h0.front 3
  have h2 : St W0 [R, big ps, A0, A1, A3, A4] w := h1.front 1
  have h3 : St W0 [big (ps ++ [R]), A0, A1, A3, A4] w := h2.push
  have h4 : St W0 [A1, big (ps ++ [R]), A0, A3, A4] w := h3.front 2
  exact (h4.front 2 : St W0 _ w)
theorem evPur {A0 A1 A2 A4 : As} {p q : Prop} {w : World} (hq : q) (h0 : St W0 [A0, A1, A2, pur p, A4] w) : St W0 [A0, A1, A2, pur q, A4] w :=
  h0.upd (i := 3) (A' := pur q) rfl (.inr ⟨rfl, rfl, rfl, Nat.le_refl _⟩) fun F hF hf => ⟨fun _ _ _ => rfl, F, fun x hx => .inl hx, hq⟩
theorem fnsE_len' {gs : List FG} {n : Nat} (h : fnsOf gs = M.pairM.take 1 ++ (List.range n).flatMap fun _ => M.pairM.drop 1) : gs.length = n + 1 ∧ ∀ e ∈ gs, e.1.l.length ≤ 4 := by
  constructor
  · have := congrArg List.length h
    rw [M.fnsE_len] at this
    unfold fnsOf at this
    rwa [List.length_map] at this
  · intro e he
    have hm : e.1 ∈ fnsOf gs := List.mem_map_of_mem he
    rw [h] at hm
    have hm' : e.1 ∈ M.pairM := by
      rcases List.mem_append.1 hm with hm | hm
      · exact List.mem_of_mem_take hm
      · obtain ⟨_, _, hm⟩ := List.mem_flatMap.1 hm
        exact List.mem_of_mem_drop hm
    simp only [M.pairM, List.mem_cons, List.not_mem_nil, or_false] at hm'
    rcases hm' with h | h <;> rw [h] <;> decide
theorem and16 (a : Int) : ∃ k : Nat, IntKind.i64.wrap (BitVec.ofInt 64 a &&& BitVec.ofInt 64 65535).toNat = (k : Int) ∧ k ≤ 65535 := by
  have h1 : (BitVec.ofInt 64 a &&& BitVec.ofInt 64 65535).toNat ≤ 65535 := by
    rw [BitVec.toNat_and]
    exact Nat.and_le_right
  exact ⟨_, wrN _ rfl (by omega), h1⟩

/-- What went is told in its order. -/
theorem evGone_c {v : Value} {es : List (Int × Int)} {room n : Nat} (hr : Rd W0 l 2 v es.length (es.flatMap evV)) (hn : es.length ≤ 4294967295) (h1 : room ≤ 8) (h2 : n ≤ 12) (hg : M.goneR es 0 = some (n - room)) (h : Run W0 l (K (.bool true))) :
    Run W0 l (LoopS [IV room, IV n, .bool true, IV 0, v, IV 0] [0, 1, 5, 18, 19, 20] fun nx e => T7_l4 nx K pn e) := by
  obtain ⟨a, c, rfl, _, _, _⟩ := hr.form
  refine run_loop (σ := Nat × Nat) (Inv := fun q => q.1 ≤ es.length ∧ q.2 ≤ q.1 ∧ M.goneR (es.drop q.1) q.2 = some (n - room)) (J := fun q => [IV room, IV n, .bool true, IV q.2, .slice a es.length c, IV q.1]) (H := fun _ => l) (μ := fun q => es.length - q.1) (0, 0) ⟨by simp, by simp, by simpa using hg⟩ rfl (fun _ hw => hw) ?_
  rintro ⟨j, gn⟩ e ⟨hj, hgj, hgo⟩ he
  simp only [List.map_cons, List.map_nil, List.cons.injEq, and_true] at he hj hgj hgo
  obtain ⟨e0, e1, e5, e18, e19, e20⟩ := he
  unfold T7_l4
  simp only [e0, e1, e5, e18, e19, e20]
  try simp only [pureE, pureT, Nat.zero_add, Nat.reduceAdd, Bool.not_false, Bool.not_true]
  by_cases hlt : j < es.length
  · rw [dec_t (show (j : Int) < (es.length : Int) by omega)]
    try simp only [pureE, pureT, Nat.zero_add, Nat.reduceAdd, Bool.not_false, Bool.not_true]
    obtain ⟨ev, hev⟩ : ∃ ev, es[j]? = some ev := ⟨_, List.getElem?_eq_getElem hlt⟩
    have hd : es.drop j = ev :: es.drop (j + 1) := by
      obtain ⟨hl, he⟩ := List.getElem?_eq_some_iff.1 hev
      rw [List.drop_eq_getElem_cons hl, he]
    rw [hd] at hgo
    unfold M.goneR at hgo
    refine run_rd_idx un40 ty44 evV_len (by omega) hr j hev fun b1 o1 hc1 => ?_
    try simp only [pureE, pureT, Nat.zero_add, Nat.reduceAdd, Bool.not_false, Bool.not_true]
    refine run_ld sc3 (hc1.fld (k := 0) (v := IV ev.1) rfl) ?_
    try simp only [pureE, pureT, Nat.zero_add, Nat.reduceAdd, Bool.not_false, Bool.not_true]
    cases h4 : ev.1 == 4
    · rw [h4] at hgo
      simp only [Bool.false_eq_true, if_false] at hgo
      try simp only [pureE, pureT, Nat.zero_add, Nat.reduceAdd, Bool.not_false, Bool.not_true]
      unfold T7_k5
      try simp only [pureE, pureT, Nat.zero_add, Nat.reduceAdd, Bool.not_false, Bool.not_true]
      rw [wrN (x := (j : Int) + 1) (j + 1) (by omega) (by omega)]
      exact fun w hw => ⟨(j + 1, gn), by simp only; omega, ⟨by simp only; omega, by simp only; omega, hgo⟩, rfl, hw⟩
    · rw [h4] at hgo
      simp only [if_true] at hgo
      split at hgo
      · rename_i h5
        try simp only [pureE, pureT, Nat.zero_add, Nat.reduceAdd, Bool.not_false, Bool.not_true]
        rw [wrN (x := (gn : Int) + 1) (gn + 1) (by omega) (by omega)]
        refine run_rd_idx un40 ty44 evV_len (by omega) hr j hev fun b2 o2 hc2 => ?_
        try simp only [pureE, pureT, Nat.zero_add, Nat.reduceAdd, Bool.not_false, Bool.not_true]
        refine run_ld sc3 (hc2.fld (k := 1) (v := IV ev.2) rfl) ?_
        try simp only [pureE, pureT, Nat.zero_add, Nat.reduceAdd, Bool.not_false, Bool.not_true]
        rw [show (ev.2 != ((gn + 1 : Nat) : Int)) = false from by unfold bne; rw [h5]; rfl]
        try simp only [pureE, pureT, Nat.zero_add, Nat.reduceAdd, Bool.not_false, Bool.not_true]
        unfold T7_k5
        try simp only [pureE, pureT, Nat.zero_add, Nat.reduceAdd, Bool.not_false, Bool.not_true]
        rw [wrN (x := (j : Int) + 1) (j + 1) (by omega) (by omega)]
        exact fun w hw => ⟨(j + 1, gn + 1), by simp only; omega, ⟨by simp only; omega, by simp only; omega, hgo⟩, rfl, hw⟩
      · simp at hgo
  · rw [dec_f (show ¬ (j : Int) < (es.length : Int) by omega)]
    rw [List.drop_of_length_le (by omega)] at hgo
    simp only [M.goneR, Option.some.injEq] at hgo
    try simp only [pureE, pureT, Nat.zero_add, Nat.reduceAdd, Bool.not_false, Bool.not_true]
    rw [show IntKind.i64.wrap ((n : Int) - (room : Int)) = (n : Int) - room from wr_in (by omega)]
    rw [show ((gn : Int) == max ((n : Int) - (room : Int)) 0) = true from by rw [beq_iff_eq]; omega]
    exact h
theorem evicts_c {a0 a1 : Int} (g : Glb W0) (h : Run W0 [] (K (.bool true))) : Run W0 [] (callS P 7 #[IV a0, IV a1] K pn) := by
  refine r7e ?_
  unfold T7
  refine shown_c g ?_
  obtain ⟨k0, hk0, hk0l⟩ := and16 a0
  obtain ⟨k1, hk1, hk1l⟩ := and16 a1
  refine run_nx _ (fun w => pv_and) ?_
  rw [show IntKind.i64.wrap (BitVec.ofInt IntKind.i64.bits a0 &&& BitVec.ofInt IntKind.i64.bits 65535).toNat = (k0 : Int) from hk0]
  refine run_nx _ (fun w => pv_rem (by omega)) ?_
  try simp only [pureE, pureT, Nat.zero_add, Nat.reduceAdd, Bool.not_false, Bool.not_true]
  rw [wrN (x := 1 + ((k0 : Int)).tmod 8) (1 + k0 % 8) (by rw [Int.tmod_eq_emod_of_nonneg (by omega)]; omega) (by omega)]
  refine run_nx _ (fun w => pv_and) ?_
  rw [show IntKind.i64.wrap (BitVec.ofInt IntKind.i64.bits a1 &&& BitVec.ofInt IntKind.i64.bits 65535).toNat = (k1 : Int) from hk1]
  refine run_nx _ (fun w => pv_rem (by omega)) ?_
  try simp only [pureE, pureT, Nat.zero_add, Nat.reduceAdd, Bool.not_false, Bool.not_true]
  rw [wrN (x := 1 + ((k1 : Int)).tmod 12) (1 + k1 % 12) (by rw [Int.tmod_eq_emod_of_nonneg (by omega)]; omega) (by omega)]
  have hroom1 : 1 ≤ 1 + k0 % 8 := by omega
  have hroom8 : 1 + k0 % 8 ≤ 8 := by omega
  have hn1 : 1 ≤ 1 + k1 % 12 := by omega
  have hn12 : 1 + k1 % 12 ≤ 12 := by omega
  generalize 1 + k0 % 8 = room at *
  generalize 1 + k1 % 12 = n at *
  refine pairO_c fun cv gs hgs hg2 hg4 => ?_
  obtain ⟨q0, q1, rfl⟩ : ∃ q0 q1, gs = [q0, q1] := by
    match gs, hg2 with
    | [q0, q1], _ => exact ⟨q0, q1, rfl⟩
  obtain ⟨f0, vq0⟩ := q0
  have hf0 : f0 = ⟨⟨#[]⟩, 0, 0, 0, [⟨1, 0, 0⟩, ⟨18, 0, 0⟩]⟩ := by
    have := congrArg (·[0]?) hgs
    simpa [fnsOf, M.pairM] using this
  refine run_codeRd (i := 0) (j := 1) rfl rfl fun hcr => ?_
  have hq0 : Rd W0 _ 3 vq0 f0.l.length (insC f0.l) := hcr.fns (f0, vq0) (by simp)
  obtain ⟨aq, cq, rfl, _, _, _⟩ := hq0.form
  refine run_nx cv (fun w => by kernel_rfl) ?_
  refine run_rd_idx un22 ty46 fnG_len (by omega) hcr.top 0 (x := (f0, .slice aq f0.l.length cq)) rfl fun bp op hcp => ?_
  refine run_lda ag46 ty46 rfl hcp ?_
  refine run_buildSlice (fnG (f0, .slice aq f0.l.length cq)) un22 ty46 (by omega) (by omega) (by kernel_rfl) fun b9 => ?_
  refine run_nx (.agg #[.slice (some ⟨b9, 0, none⟩) 1 1]) (fun w => by kernel_rfl) ?_
  refine run_alloc ty24 fun b6 => ?_
  refine run_st ty24 (i := 0) rfl rfl (by simp [Value.cells, Value.oneCell']) (by simp [Value.cells]) ?_
  refine run_rowOfPt 1 5 1 rfl (by simp [fnG_len]) (by unfold maxLen; omega) ?_
  refine run_to (evA b6 0 :: []) (fun w hw => ?_) ?_
  · have k1 : St W0 [pt b6 24 [.slice (some ⟨b9, 0, none⟩) 1 1], row 46 5 (.slice (some ⟨b9, 0, none⟩) 1 1) 1 (fnG (f0, .slice aq f0.l.length cq)), row 46 5 cv 2 ([(f0, .slice aq f0.l.length cq), q1].flatMap fnG), big [fRow (f0, .slice aq f0.l.length cq), fRow q1]] w := hw
    have k2 := (k1.openB (i := 3) rfl : St W0 [fRow (f0, .slice aq f0.l.length cq), fRow q1, pt b6 24 [.slice (some ⟨b9, 0, none⟩) 1 1], row 46 5 (.slice (some ⟨b9, 0, none⟩) 1 1) 1 (fnG (f0, .slice aq f0.l.length cq)), row 46 5 cv 2 ([(f0, .slice aq f0.l.length cq), q1].flatMap fnG)] w)
    have k3 : St W0 [fRow (f0, .slice aq f0.l.length cq), pt b6 24 [.slice (some ⟨b9, 0, none⟩) 1 1], row 46 5 (.slice (some ⟨b9, 0, none⟩) 1 1) 1 (fnG (f0, .slice aq f0.l.length cq))] w := (k2.erase 1).erase 3
    have k4 : St W0 ([fRow (f0, .slice aq f0.l.length cq)] ++ [pt b6 24 [.slice (some ⟨b9, 0, none⟩) 1 1], row 46 5 (.slice (some ⟨b9, 0, none⟩) 1 1) 1 (fnG (f0, .slice aq f0.l.length cq))]) w := k3
    have k5 := k4.pack (A' := big [fRow (f0, .slice aq f0.l.length cq)]) fun F hs => hs
    have hfn : fnsOf [(f0, .slice aq f0.l.length cq)] = M.pairM.take 1 ++ (List.range 0).flatMap fun _ => M.pairM.drop 1 := by
      unfold fnsOf; rw [List.map_cons, hf0]; rfl
    have k6 : St W0 [pur (fnsOf [(f0, .slice aq f0.l.length cq)] = M.pairM.take 1 ++ (List.range 0).flatMap fun _ => M.pairM.drop 1), big [fRow (f0, .slice aq f0.l.length cq)], pt b6 24 [.slice (some ⟨b9, 0, none⟩) 1 1], row 46 5 (.slice (some ⟨b9, 0, none⟩) 1 1) 1 (fnG (f0, .slice aq f0.l.length cq))] w := k5.new ⟨rfl, rfl, rfl, Nat.le_refl _, fun _ _ _ => rfl⟩ (fun _ => False) (fun _ hx => hx.elim) hfn
    have k7 : St W0 [big [fRow (f0, .slice aq f0.l.length cq)], pur (fnsOf [(f0, .slice aq f0.l.length cq)] = M.pairM.take 1 ++ (List.range 0).flatMap fun _ => M.pairM.drop 1), pt b6 24 [.slice (some ⟨b9, 0, none⟩) 1 1], row 46 5 (.slice (some ⟨b9, 0, none⟩) 1 1) 1 (fnG (f0, .slice aq f0.l.length cq))] w := k6.front 1
    have k8 : St W0 [row 46 5 (.slice (some ⟨b9, 0, none⟩) 1 1) 1 (fnG (f0, .slice aq f0.l.length cq)), big [fRow (f0, .slice aq f0.l.length cq)], pur (fnsOf [(f0, .slice aq f0.l.length cq)] = M.pairM.take 1 ++ (List.range 0).flatMap fun _ => M.pairM.drop 1), pt b6 24 [.slice (some ⟨b9, 0, none⟩) 1 1]] w := k7.front 3
    have k9 : St W0 [pt b6 24 [.slice (some ⟨b9, 0, none⟩) 1 1], row 46 5 (.slice (some ⟨b9, 0, none⟩) 1 1) 1 (fnG (f0, .slice aq f0.l.length cq)), big [fRow (f0, .slice aq f0.l.length cq)], pur (fnsOf [(f0, .slice aq f0.l.length cq)] = M.pairM.take 1 ++ (List.range 0).flatMap fun _ => M.pairM.drop 1)] w := k8.front 3
    have k10 : St W0 (evPs b6 0 (.slice (some ⟨b9, 0, none⟩) 1 1, [(f0, .slice aq f0.l.length cq)]) ++ []) w := k9
    exact k10.pack fun F hs => ⟨_, hs⟩
  -- the functions and the picks
  refine run_loop (σ := Nat × Value) (Inv := fun s => s.1 ≤ n) (J := fun s => [IV room, IV n, .bool true, Ptr b6, s.2, IV s.1])
    (H := fun s => row 2 1 s.2 s.1 (numC ((List.range s.1).map fun _ => 1)) :: evA b6 s.1 :: []) (μ := fun s => n - s.1) (0, .slice none 0 0) (by simp) rfl (fun w hw => ?_) ?_
  · exact St.new hw ⟨rfl, rfl, rfl, Nat.le_refl _, fun _ _ _ => rfl⟩ (fun _ => False) (fun _ hx => hx.elim) ⟨by simp, .inl ⟨rfl, rfl, fun _ hx => hx⟩⟩
  rintro ⟨s, v⟩ e hs he
  simp only [List.map_cons, List.map_nil, List.cons.injEq, and_true] at he hs
  obtain ⟨e0, e1, e5, e6, e7, e8⟩ := he
  unfold T7_l1
  simp only [e0, e1, e5, e6, e7, e8]
  try simp only [pureE, pureT, Nat.zero_add, Nat.reduceAdd, Bool.not_false, Bool.not_true]
  by_cases hlt : s < n
  · rw [dec_t (show (s : Int) < (n : Int) by omega)]
    try simp only [pureE, pureT, Nat.zero_add, Nat.reduceAdd, Bool.not_false, Bool.not_true]
    refine run_draw [] (fun w hw => hw.nil) ?_
    try simp only [pureE, pureT, Nat.zero_add, Nat.reduceAdd, Bool.not_false, Bool.not_true]
    refine run_open 1 rfl fun x => ?_
    refine run_to (evPs b6 s x ++ [row 2 1 v s (numC ((List.range s).map fun _ => 1))]) (fun w hw => hw) ?_
    refine run_pur 3 rfl fun hp => ?_
    obtain ⟨hxl, _⟩ := fnsE_len' hp
    refine run_two ?_ (?_ : Run W0 _ _)
    · refine run_ld sc22 (cl1 (i := 0) rfl (v := x.1) rfl) (run_and (fun w hw => hw.nil) ?_)
      refine pairO_c fun cvp gsp hgsp hg2 hg4 => run_and (fun w hw => hw.nil) ?_
      refine run_px cvp (fun w => by kernel_rfl) ?_
      obtain ⟨p0, p1, rfl⟩ : ∃ p0 p1, gsp = [p0, p1] := by
        match gsp, hg2 with
        | [p0, p1], _ => exact ⟨p0, p1, rfl⟩
      refine run_codeRd (i := 0) (j := 1) rfl rfl fun hcr => ?_
      obtain ⟨f1, vp1⟩ := p1
      have hp1 : f1 = ⟨⟨#[102]⟩, 1, 1, 0, [⟨2, 0, 0⟩, ⟨1, 0, 3⟩, ⟨8, 0, 0⟩, ⟨18, 0, 0⟩]⟩ := by
        have := congrArg (·[1]?) hgsp
        simpa [fnsOf, M.pairM] using this
      have hq1 : Rd W0 _ 3 vp1 f1.l.length (insC f1.l) := hcr.fns (f1, vp1) (by simp)
      obtain ⟨ap1, cp1, rfl, _, _, _⟩ := hq1.form
      have hp1one : ∀ u ∈ fnG (f1, .slice ap1 f1.l.length cp1), u.oneCell' = true := fnG_one _ rfl
      refine run_rd_idxP un22 ty46 fnG_len (by omega) hcr.top 1 (x := (f1, .slice ap1 f1.l.length cp1)) rfl fun bp op hcp => ?_
      refine run_lda ag46 ty46 rfl hcp (run_and (fun w hw => hw.nil) ?_)
      refine run_buildSlice (fnG (f1, .slice ap1 f1.l.length cp1)) un22 ty46 (by omega) (by omega) (by kernel_rfl) fun b9 => run_and (fun w hw => hw.nil) ?_
      refine run_append 4 un22 ty46 rfl rfl (Rd.pt (i := 0) rfl 5 (by simp [fnG_len])) hp1one (by unfold maxLen; omega) (by omega) (by omega) fun v7 _ => run_and (fun w hw => hw.nil) ?_
      refine run_drop ?_
      try simp only [pureE, pureT, Nat.zero_add, Nat.reduceAdd, Bool.not_false, Bool.not_true]
      refine run_row_rd 3 rfl fun hr7 => ?_
      obtain ⟨a7, c7, rfl, _, _, _⟩ := hr7.form
      refine run_st ty22 (i := 2) rfl rfl (by simp [Value.cells, Value.oneCell']) (by simp) (run_and (fun w hw => hw.nil) ?_)
      refine run_buildSlice (numV 1) un26 ty2 (by omega) (by omega) (by kernel_rfl) fun b10 => ?_
      refine run_append 7 un26 ty2 rfl rfl (Rd.pt (i := 0) rfl 1 (by simp [numV])) (numV_one _) (by unfold maxLen; omega) (by omega) (by omega) fun v8 _ => ?_
      refine run_drop ?_
      try simp only [pureE, pureT, Nat.zero_add, Nat.reduceAdd, Bool.not_false, Bool.not_true]
      rw [wrN (x := (s : Int) + 1) (s + 1) (by omega) (by omega)]
      refine run_drop ?_
      refine run_openB 0 rfl ?_
      refine run_drop ?_
      have hnew : fnsOf (x.2 ++ [(f1, .slice ap1 f1.l.length cp1)]) = M.pairM.take 1 ++ (List.range (s + 1)).flatMap fun _ => M.pairM.drop 1 := by
        unfold fnsOf at hp ⊢
        rw [List.map_append, hp, List.range_succ, List.flatMap_append, List.append_assoc]
        simp only [List.map_cons, List.map_nil, List.flatMap_cons, List.flatMap_nil, List.append_nil]
        rw [hp1]; rfl
      refine run_to (evPs b6 (s + 1) (.slice a7 (x.2.length + 1) c7, x.2 ++ [(f1, .slice ap1 f1.l.length cp1)]) ++ [row 2 1 v8 (s + 1) (numC ((List.range (s + 1)).map fun _ => 1))]) (fun w hw => ?_) ?_
      · have h8 := evPush hw
        have h9 : St W0 [pt b6 24 [.slice a7 (x.2.length + 1) c7], row 46 5 (.slice a7 (x.2.length + 1) c7) (x.2.length + 1) (x.2.flatMap fnG ++ fnG (f1, .slice ap1 f1.l.length cp1)), big (x.2.map fRow ++ [fRow (f1, .slice ap1 f1.l.length cp1)]), pur (fnsOf (x.2 ++ [(f1, .slice ap1 f1.l.length cp1)]) = M.pairM.take 1 ++ (List.range (s + 1)).flatMap fun _ => M.pairM.drop 1), row 2 1 v8 (s + 1) (numC ((List.range s).map fun _ => 1) ++ numV 1)] w :=
          evPur hnew h8
        unfold evPs
        rw [List.range_succ, List.map_append] at *
        simp only [List.length_append, List.length_singleton, List.flatMap_append, List.flatMap_cons, List.flatMap_nil, List.append_nil, List.map_append, List.map_cons, List.map_nil, numC] at h9 ⊢
        exact h9
      refine run_to (row 2 1 v8 (s + 1) (numC ((List.range (s + 1)).map fun _ => 1)) :: evA b6 (s + 1) :: []) (fun w hw => ?_) ?_
      · have h9 := hw.pack (ps := evPs b6 (s + 1) (.slice a7 (x.2.length + 1) c7, x.2 ++ [(f1, .slice ap1 f1.l.length cp1)])) (A' := evA b6 (s + 1)) fun F hs => ⟨_, hs⟩
        exact h9.front 1
      exact fun w hw => ⟨(s + 1, v8), by simp only; omega, by simp only; omega, rfl, hw⟩
    · refine pairO_c fun cvp gsp hgsp hg2 hg4 => run_and (fun w hw => hw.nil) ?_
      refine run_px cvp (fun w => by kernel_rfl) ?_
      obtain ⟨p0, p1, rfl⟩ : ∃ p0 p1, gsp = [p0, p1] := by
        match gsp, hg2 with
        | [p0, p1], _ => exact ⟨p0, p1, rfl⟩
      refine run_codeRd (i := 0) (j := 1) rfl rfl fun hcr => ?_
      obtain ⟨f1, vp1⟩ := p1
      have hp1 : f1 = ⟨⟨#[102]⟩, 1, 1, 0, [⟨2, 0, 0⟩, ⟨1, 0, 3⟩, ⟨8, 0, 0⟩, ⟨18, 0, 0⟩]⟩ := by
        have := congrArg (·[1]?) hgsp
        simpa [fnsOf, M.pairM] using this
      have hq1 : Rd W0 _ 3 vp1 f1.l.length (insC f1.l) := hcr.fns (f1, vp1) (by simp)
      obtain ⟨ap1, cp1, rfl, _, _, _⟩ := hq1.form
      have hp1one : ∀ u ∈ fnG (f1, .slice ap1 f1.l.length cp1), u.oneCell' = true := fnG_one _ rfl
      refine run_rd_idxP un22 ty46 fnG_len (by omega) hcr.top 1 (x := (f1, .slice ap1 f1.l.length cp1)) rfl fun bp op hcp => ?_
      refine run_two ?_ ?_
      · refine run_ld sc22 (cl1 (i := 2) rfl (v := x.1) rfl) (run_and (fun w hw => hw.nil) ?_)
        refine run_lda ag46 ty46 rfl hcp (run_and (fun w hw => hw.nil) ?_)
        refine run_buildSlice (fnG (f1, .slice ap1 f1.l.length cp1)) un22 ty46 (by omega) (by omega) (by kernel_rfl) fun b9 => run_and (fun w hw => hw.nil) ?_
        refine run_append 4 un22 ty46 rfl rfl (Rd.pt (i := 0) rfl 5 (by simp [fnG_len])) hp1one (by unfold maxLen; omega) (by omega) (by omega) fun v7 _ => run_and (fun w hw => hw.nil) ?_
        refine run_drop ?_
        try simp only [pureE, pureT, Nat.zero_add, Nat.reduceAdd, Bool.not_false, Bool.not_true]
        refine run_row_rd 3 rfl fun hr7 => ?_
        obtain ⟨a7, c7, rfl, _, _, _⟩ := hr7.form
        refine run_st ty22 (i := 2) rfl rfl (by simp [Value.cells, Value.oneCell']) (by simp) (run_and (fun w hw => hw.nil) ?_)
        refine run_buildSlice (numV 1) un26 ty2 (by omega) (by omega) (by kernel_rfl) fun b10 => ?_
        refine run_append 7 un26 ty2 rfl rfl (Rd.pt (i := 0) rfl 1 (by simp [numV])) (numV_one _) (by unfold maxLen; omega) (by omega) (by omega) fun v8 _ => ?_
        refine run_drop ?_
        try simp only [pureE, pureT, Nat.zero_add, Nat.reduceAdd, Bool.not_false, Bool.not_true]
        rw [wrN (x := (s : Int) + 1) (s + 1) (by omega) (by omega)]
        refine run_drop ?_
        refine run_openB 0 rfl ?_
        refine run_drop ?_
        have hnew : fnsOf (x.2 ++ [(f1, .slice ap1 f1.l.length cp1)]) = M.pairM.take 1 ++ (List.range (s + 1)).flatMap fun _ => M.pairM.drop 1 := by
          unfold fnsOf at hp ⊢
          rw [List.map_append, hp, List.range_succ, List.flatMap_append, List.append_assoc]
          simp only [List.map_cons, List.map_nil, List.flatMap_cons, List.flatMap_nil, List.append_nil]
          rw [hp1]; rfl
        refine run_to (evPs b6 (s + 1) (.slice a7 (x.2.length + 1) c7, x.2 ++ [(f1, .slice ap1 f1.l.length cp1)]) ++ [row 2 1 v8 (s + 1) (numC ((List.range (s + 1)).map fun _ => 1))]) (fun w hw => ?_) ?_
        · have h8 := evPush hw
          have h9 : St W0 [pt b6 24 [.slice a7 (x.2.length + 1) c7], row 46 5 (.slice a7 (x.2.length + 1) c7) (x.2.length + 1) (x.2.flatMap fnG ++ fnG (f1, .slice ap1 f1.l.length cp1)), big (x.2.map fRow ++ [fRow (f1, .slice ap1 f1.l.length cp1)]), pur (fnsOf (x.2 ++ [(f1, .slice ap1 f1.l.length cp1)]) = M.pairM.take 1 ++ (List.range (s + 1)).flatMap fun _ => M.pairM.drop 1), row 2 1 v8 (s + 1) (numC ((List.range s).map fun _ => 1) ++ numV 1)] w :=
            evPur hnew h8
          unfold evPs
          rw [List.range_succ, List.map_append] at *
          simp only [List.length_append, List.length_singleton, List.flatMap_append, List.flatMap_cons, List.flatMap_nil, List.append_nil, List.map_append, List.map_cons, List.map_nil, numC] at h9 ⊢
          exact h9
        refine run_to (row 2 1 v8 (s + 1) (numC ((List.range (s + 1)).map fun _ => 1)) :: evA b6 (s + 1) :: []) (fun w hw => ?_) ?_
        · have h9 := hw.pack (ps := evPs b6 (s + 1) (.slice a7 (x.2.length + 1) c7, x.2 ++ [(f1, .slice ap1 f1.l.length cp1)])) (A' := evA b6 (s + 1)) fun F hs => ⟨_, hs⟩
          exact h9.front 1
        exact fun w hw => ⟨(s + 1, v8), by simp only; omega, by simp only; omega, rfl, hw⟩
      · refine run_lda ag46 ty46 rfl hcp (run_and (fun w hw => hw.nil) ?_)
        refine run_two ?_ ?_
        · refine run_ld sc22 (cl1 (i := 2) rfl (v := x.1) rfl) (run_and (fun w hw => hw.nil) ?_)
          refine run_buildSlice (fnG (f1, .slice ap1 f1.l.length cp1)) un22 ty46 (by omega) (by omega) (by kernel_rfl) fun b9 => run_and (fun w hw => hw.nil) ?_
          refine run_append 4 un22 ty46 rfl rfl (Rd.pt (i := 0) rfl 5 (by simp [fnG_len])) hp1one (by unfold maxLen; omega) (by omega) (by omega) fun v7 _ => run_and (fun w hw => hw.nil) ?_
          refine run_drop ?_
          try simp only [pureE, pureT, Nat.zero_add, Nat.reduceAdd, Bool.not_false, Bool.not_true]
          refine run_row_rd 3 rfl fun hr7 => ?_
          obtain ⟨a7, c7, rfl, _, _, _⟩ := hr7.form
          refine run_st ty22 (i := 2) rfl rfl (by simp [Value.cells, Value.oneCell']) (by simp) (run_and (fun w hw => hw.nil) ?_)
          refine run_buildSlice (numV 1) un26 ty2 (by omega) (by omega) (by kernel_rfl) fun b10 => ?_
          refine run_append 7 un26 ty2 rfl rfl (Rd.pt (i := 0) rfl 1 (by simp [numV])) (numV_one _) (by unfold maxLen; omega) (by omega) (by omega) fun v8 _ => ?_
          refine run_drop ?_
          try simp only [pureE, pureT, Nat.zero_add, Nat.reduceAdd, Bool.not_false, Bool.not_true]
          rw [wrN (x := (s : Int) + 1) (s + 1) (by omega) (by omega)]
          refine run_drop ?_
          refine run_openB 0 rfl ?_
          refine run_drop ?_
          have hnew : fnsOf (x.2 ++ [(f1, .slice ap1 f1.l.length cp1)]) = M.pairM.take 1 ++ (List.range (s + 1)).flatMap fun _ => M.pairM.drop 1 := by
            unfold fnsOf at hp ⊢
            rw [List.map_append, hp, List.range_succ, List.flatMap_append, List.append_assoc]
            simp only [List.map_cons, List.map_nil, List.flatMap_cons, List.flatMap_nil, List.append_nil]
            rw [hp1]; rfl
          refine run_to (evPs b6 (s + 1) (.slice a7 (x.2.length + 1) c7, x.2 ++ [(f1, .slice ap1 f1.l.length cp1)]) ++ [row 2 1 v8 (s + 1) (numC ((List.range (s + 1)).map fun _ => 1))]) (fun w hw => ?_) ?_
          · have h8 := evPush hw
            have h9 : St W0 [pt b6 24 [.slice a7 (x.2.length + 1) c7], row 46 5 (.slice a7 (x.2.length + 1) c7) (x.2.length + 1) (x.2.flatMap fnG ++ fnG (f1, .slice ap1 f1.l.length cp1)), big (x.2.map fRow ++ [fRow (f1, .slice ap1 f1.l.length cp1)]), pur (fnsOf (x.2 ++ [(f1, .slice ap1 f1.l.length cp1)]) = M.pairM.take 1 ++ (List.range (s + 1)).flatMap fun _ => M.pairM.drop 1), row 2 1 v8 (s + 1) (numC ((List.range s).map fun _ => 1) ++ numV 1)] w :=
              evPur hnew h8
            unfold evPs
            rw [List.range_succ, List.map_append] at *
            simp only [List.length_append, List.length_singleton, List.flatMap_append, List.flatMap_cons, List.flatMap_nil, List.append_nil, List.map_append, List.map_cons, List.map_nil, numC] at h9 ⊢
            exact h9
          refine run_to (row 2 1 v8 (s + 1) (numC ((List.range (s + 1)).map fun _ => 1)) :: evA b6 (s + 1) :: []) (fun w hw => ?_) ?_
          · have h9 := hw.pack (ps := evPs b6 (s + 1) (.slice a7 (x.2.length + 1) c7, x.2 ++ [(f1, .slice ap1 f1.l.length cp1)])) (A' := evA b6 (s + 1)) fun F hs => ⟨_, hs⟩
            exact h9.front 1
          exact fun w hw => ⟨(s + 1, v8), by simp only; omega, by simp only; omega, rfl, hw⟩
        · refine run_buildSlice (fnG (f1, .slice ap1 f1.l.length cp1)) un22 ty46 (by omega) (by omega) (by kernel_rfl) fun b9 => run_and (fun w hw => hw.nil) ?_
          refine run_ld sc22 (cl1 (i := 3) rfl (v := x.1) rfl) (run_and (fun w hw => hw.nil) ?_)
          refine run_append 4 un22 ty46 rfl rfl (Rd.pt (i := 0) rfl 5 (by simp [fnG_len])) hp1one (by unfold maxLen; omega) (by omega) (by omega) fun v7 _ => run_and (fun w hw => hw.nil) ?_
          refine run_drop ?_
          try simp only [pureE, pureT, Nat.zero_add, Nat.reduceAdd, Bool.not_false, Bool.not_true]
          refine run_row_rd 3 rfl fun hr7 => ?_
          obtain ⟨a7, c7, rfl, _, _, _⟩ := hr7.form
          refine run_st ty22 (i := 2) rfl rfl (by simp [Value.cells, Value.oneCell']) (by simp) (run_and (fun w hw => hw.nil) ?_)
          refine run_buildSlice (numV 1) un26 ty2 (by omega) (by omega) (by kernel_rfl) fun b10 => ?_
          refine run_append 7 un26 ty2 rfl rfl (Rd.pt (i := 0) rfl 1 (by simp [numV])) (numV_one _) (by unfold maxLen; omega) (by omega) (by omega) fun v8 _ => ?_
          refine run_drop ?_
          try simp only [pureE, pureT, Nat.zero_add, Nat.reduceAdd, Bool.not_false, Bool.not_true]
          rw [wrN (x := (s : Int) + 1) (s + 1) (by omega) (by omega)]
          refine run_drop ?_
          refine run_openB 0 rfl ?_
          refine run_drop ?_
          have hnew : fnsOf (x.2 ++ [(f1, .slice ap1 f1.l.length cp1)]) = M.pairM.take 1 ++ (List.range (s + 1)).flatMap fun _ => M.pairM.drop 1 := by
            unfold fnsOf at hp ⊢
            rw [List.map_append, hp, List.range_succ, List.flatMap_append, List.append_assoc]
            simp only [List.map_cons, List.map_nil, List.flatMap_cons, List.flatMap_nil, List.append_nil]
            rw [hp1]; rfl
          refine run_to (evPs b6 (s + 1) (.slice a7 (x.2.length + 1) c7, x.2 ++ [(f1, .slice ap1 f1.l.length cp1)]) ++ [row 2 1 v8 (s + 1) (numC ((List.range (s + 1)).map fun _ => 1))]) (fun w hw => ?_) ?_
          · have h8 := evPush hw
            have h9 : St W0 [pt b6 24 [.slice a7 (x.2.length + 1) c7], row 46 5 (.slice a7 (x.2.length + 1) c7) (x.2.length + 1) (x.2.flatMap fnG ++ fnG (f1, .slice ap1 f1.l.length cp1)), big (x.2.map fRow ++ [fRow (f1, .slice ap1 f1.l.length cp1)]), pur (fnsOf (x.2 ++ [(f1, .slice ap1 f1.l.length cp1)]) = M.pairM.take 1 ++ (List.range (s + 1)).flatMap fun _ => M.pairM.drop 1), row 2 1 v8 (s + 1) (numC ((List.range s).map fun _ => 1) ++ numV 1)] w :=
              evPur hnew h8
            unfold evPs
            rw [List.range_succ, List.map_append] at *
            simp only [List.length_append, List.length_singleton, List.flatMap_append, List.flatMap_cons, List.flatMap_nil, List.append_nil, List.map_append, List.map_cons, List.map_nil, numC] at h9 ⊢
            exact h9
          refine run_to (row 2 1 v8 (s + 1) (numC ((List.range (s + 1)).map fun _ => 1)) :: evA b6 (s + 1) :: []) (fun w hw => ?_) ?_
          · have h9 := hw.pack (ps := evPs b6 (s + 1) (.slice a7 (x.2.length + 1) c7, x.2 ++ [(f1, .slice ap1 f1.l.length cp1)])) (A' := evA b6 (s + 1)) fun F hs => ⟨_, hs⟩
            exact h9.front 1
          exact fun w hw => ⟨(s + 1, v8), by simp only; omega, by simp only; omega, rfl, hw⟩
  · rw [dec_f (show ¬ (s : Int) < (n : Int) by omega)]
    try simp only [pureE, pureT, Nat.zero_add, Nat.reduceAdd, Bool.not_false, Bool.not_true]
    have hse : s = n := by omega
    subst hse
    refine run_open 1 rfl fun x => ?_
    refine run_to (evPs b6 s x ++ [row 2 1 v s (numC ((List.range s).map fun _ => 1))]) (fun w hw => hw) ?_
    refine run_pur 3 rfl fun hp => ?_
    obtain ⟨hxl, hx4⟩ := fnsE_len' hp
    refine run_lda ag24 ty24 (xs := [x.1]) rfl (cl_all (i := 0) rfl) ?_
    refine run_codeRd (i := 1) (j := 2) rfl rfl fun hcr => ?_
    refine run_row_rd 4 rfl fun hrk => ?_
    refine new_c (ps := []) (ks := (List.range s).map fun _ => 1) hcr ⟨Rd.nil, by simp⟩ (by omega) (fun e he => by have := hx4 e he; omega) (by simpa using hrk) (by simp) (by simp) (by simp; omega) fun b t => ?_
    have hok0 : M.Ok (M.newM (fnsOf x.2) (pubOf []) (room : Int) ((List.range s).map fun _ => 1)) := M.Ok.new (fun f hf => by
      obtain ⟨e, he, rfl⟩ := List.mem_map.1 hf
      have := hx4 e he
      omega) (by simp [fnsOf]; omega)
    have hm : M.newM (fnsOf x.2) (pubOf []) (room : Int) ((List.range s).map fun _ => 1) = M.evictNew room s := by rw [hp]; rfl
    rw [hm] at hok0 ⊢
    refine run_to [mgrA b t (M.evictNew room s)] (fun w hw => hw.head) ?_
    refine run_nx (.bool false) (fun w => pv_eqlPN un30) ?_
    try simp only [pureE, pureT, Nat.zero_add, Nat.reduceAdd, Bool.not_false, Bool.not_true]
    have hev0 : M.Ev room s 0 (M.evictNew room s) := M.Ev.new hroom1 hroom8
    refine run_loop (σ := Nat × M.Mgr) (Inv := fun q => q.1 ≤ s ∧ M.Ev room s q.1 q.2 ∧ M.Ok q.2 ∧ q.2.events.length ≤ 3 * q.1) (J := fun q => [IV room, IV s, .bool true, Ptr b, IV ((q.1 : Int) + 1)]) (H := fun q => [mgrA b t q.2]) (μ := fun q => s - q.1) (0, M.evictNew room s) ⟨by simp, hev0, hok0, Nat.le_refl _⟩ rfl (fun w hw => hw) ?_
    rintro ⟨k, m⟩ e ⟨hk, hev, hok, hevl⟩ he
    simp only [List.map_cons, List.map_nil, List.cons.injEq, and_true] at he hk hev hok hevl
    obtain ⟨e0, e1, e5, e9, e10⟩ := he
    unfold T7_l2
    simp only [e0, e1, e5, e9, e10]
    try simp only [pureE, pureT, Nat.zero_add, Nat.reduceAdd, Bool.not_false, Bool.not_true]
    by_cases hkn : k < s
    · rw [dec_t (show (k : Int) + 1 ≤ (s : Int) by omega)]
      try simp only [pureE, pureT, Nat.zero_add, Nat.reduceAdd, Bool.not_false, Bool.not_true]
      refine enter1_c (i := 0) rfl hok (by omega) fun b8 a8 c8 => ?_
      obtain ⟨h1, h2⟩ := M.evict_first hroom1 hev hkn
      have hok' := hok.enter ((k : Int) + 1) [3]
      have hel := (M.enterM_ev m ((k : Int) + 1) [3]).1
      rw [h1]
      simp only
      try simp only [pureE, pureT, Nat.zero_add, Nat.reduceAdd, Bool.not_false, Bool.not_true]
      rw [show ((8 : Int) != 8) = false from rfl]
      try simp only [pureE, pureT, Nat.zero_add, Nat.reduceAdd, Bool.not_false, Bool.not_true]
      rw [show IntKind.i64.wrap ((k : Int) + 1 + 1) = ((k + 1 : Nat) : Int) + 1 from (wr_in (by omega)).trans (by omega)]
      exact fun w hw => ⟨(k + 1, (M.enterM m ((k : Int) + 1) [3]).2), by simp only; omega, ⟨by simp only; omega, h2, hok', by simp only; omega⟩, rfl, hw.tail.tail⟩
    rw [dec_f (show ¬ (k : Int) + 1 ≤ (s : Int) by omega)]
    try simp only [pureE, pureT, Nat.zero_add, Nat.reduceAdd, Bool.not_false, Bool.not_true]
    have hks : k = s := by omega
    subst hks
    refine run_loop (σ := Nat × M.Mgr) (Inv := fun q => q.1 ≤ k ∧ M.Ev room k k q.2 ∧ M.Ok q.2 ∧ q.2.events.length ≤ 3 * k + 3 * q.1) (J := fun q => [IV room, IV k, .bool true, Ptr b, IV ((q.1 : Int) + 1)]) (H := fun q => [mgrA b t q.2]) (μ := fun q => k - q.1) (0, m) ⟨by simp, hev, hok, by simp only; omega⟩ rfl (fun w hw => hw) ?_
    rintro ⟨i, m2⟩ e ⟨hi, hev2, hok2, hevl2⟩ he
    simp only [List.map_cons, List.map_nil, List.cons.injEq, and_true] at he hi hev2 hok2 hevl2
    obtain ⟨e0, e1, e5, e9, e14⟩ := he
    unfold T7_l3
    simp only [e0, e1, e5, e9, e14]
    try simp only [pureE, pureT, Nat.zero_add, Nat.reduceAdd, Bool.not_false, Bool.not_true]
    by_cases hin : i < k
    · rw [dec_t (show (i : Int) + 1 ≤ (k : Int) by omega)]
      try simp only [pureE, pureT, Nat.zero_add, Nat.reduceAdd, Bool.not_false, Bool.not_true]
      refine enter1_c (i := 0) rfl hok2 (by omega) fun b8 a8 c8 => ?_
      obtain ⟨h1, h2⟩ := M.evict_second hev2 hin
      have hok' := hok2.enter ((i : Int) + 1) [3]
      have hel := (M.enterM_ev m2 ((i : Int) + 1) [3]).1
      rw [h1]
      simp only
      try simp only [pureE, pureT, Nat.zero_add, Nat.reduceAdd, Bool.not_false, Bool.not_true]
      rw [show IntKind.i64.wrap ((k : Int) - (room : Int)) = (k : Int) - room from wr_in (by omega)]
      rw [show decide ((k : Int) - (room : Int) < (i : Int) + 1) = decide (k < i + 1 + room) from decide_eq_decide.2 (by omega)]
      refine run_nx (.bool !(decide (k < i + 1 + room) == decide (k < i + 1 + room))) (fun w => pv_neqB un4) ?_
      rw [show (!(decide (k < i + 1 + room) == decide (k < i + 1 + room))) = false from by simp]
      try simp only [pureE, pureT, Nat.zero_add, Nat.reduceAdd, Bool.not_false, Bool.not_true]
      rw [show ((0 : Int) != 0) = false from rfl]
      try simp only [pureE, pureT, Nat.zero_add, Nat.reduceAdd, Bool.not_false, Bool.not_true]
      rw [show IntKind.i64.wrap ((i : Int) + 1 + 1) = ((i + 1 : Nat) : Int) + 1 from (wr_in (by omega)).trans (by omega)]
      exact fun w hw => ⟨(i + 1, (M.enterM m2 ((i : Int) + 1) [3]).2), by simp only; omega, ⟨by simp only; omega, h2, hok', by simp only; omega⟩, rfl, hw.tail.tail⟩
    rw [dec_f (show ¬ (i : Int) + 1 ≤ (k : Int) by omega)]
    try simp only [pureE, pureT, Nat.zero_add, Nat.reduceAdd, Bool.not_false, Bool.not_true]
    refine events_c (i := 0) rfl (by omega) fun v' => ?_
    refine run_row_rd 0 rfl fun hre => ?_
    exact evGone_c hre (by omega) hroom8 hn12 hev2.events (h.of fun w hw => hw.nil)
end
end Go.Proofs.YtkonigmefmgepaaDoor
