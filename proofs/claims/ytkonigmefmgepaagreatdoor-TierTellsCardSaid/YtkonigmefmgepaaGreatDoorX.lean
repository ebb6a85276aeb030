/- Contracts: the document's manager is made; its code; bodies held against each other (own work). -/
import Derived.Test.YtkonigmefmgepaaGreatDoorV
namespace Go.Proofs.YtkonigmefmgepaaGreatDoor
open Go.RowKit
set_option linter.unusedVariables false
set_option linter.unusedSimpArgs false

abbrev arOf (gs : List FG) : List AE := gs.map fun e => (e.2, e.1.l)
section
variable {W0 : World} {l : List As} {K : Value → C} {pn : Pn}

theorem newR_c {lv pv kv : Value} {gs : List FG} {ps : List PG} {ks : List Int} {cap : Int} (hlv : ∃ a n c, lv = .slice a n c) (hpr : PubRd W0 [] pv ps) (hk : Rd W0 [] 1 kv ks.length (numC ks))
    (h : ∀ b, Run W0 (refA W0 b (M.newR (gs.map (·.1)) (ps.map (·.2)) cap ks) :: l) (K (Ptr b))) : Run W0 (row 74 5 lv gs.length (gs.flatMap fnG) :: big ((arOf gs).map aRow) :: l) (callS P 7 #[lv, pv, IV cap, kv] K pn) := by
  refine r7 ?_
  unfold S7
  obtain ⟨la, ln, lc, rfl⟩ := hlv
  obtain ⟨pa, pc, hpv, _⟩ := hpr.top.form
  obtain ⟨ka, kc, hkv, _⟩ := hk.form
  have hf : RFacts W0 (M.newR (gs.map (·.1)) (ps.map (·.2)) cap ks) ⟨.slice la ln lc, pv, kv, .slice none 0 0, .slice none 0 0, gs, [], arOf gs⟩ :=
    ⟨rfl, rfl, fun g hg => List.mem_map_of_mem (f := fun e : FG => (e.2, e.1.l)) hg, fun e he => by simp at he, ⟨ps, rfl, hpr⟩, hk⟩
  subst hpv
  subst hkv
  try simp only [pureE, pureT, Nat.zero_add, Nat.reduceAdd, Bool.not_false, Bool.not_true]
  refine run_nx (.agg #[.slice la ln lc, .slice pa ps.length pc, IV (min (max cap 1) 32), .slice ka ks.length kc, .slice none 0 0, .slice none 0 0]) (fun w => by kernel_rfl) ?_
  refine run_box fun b => ?_
  refine run_rowNil 92 5 ?_
  refine run_rowNil 53 2 ?_
  refine run_newPur _ hf ?_
  refine run_to (refPs W0 b (M.newR (gs.map (·.1)) (ps.map (·.2)) cap ks) ⟨.slice la ln lc, .slice pa ps.length pc, .slice ka ks.length kc, .slice none 0 0, .slice none 0 0, gs, [], arOf gs⟩ ++ l) (fun w hw => ?_) (run_pack _ (h b))
  -- pur, row53, row92, pt, row74, big
  have g1 := ((((hw.front 5).front 2).front 3).front 5).front 5
  exact g1

theorem sameR_c {v1 v2 : Value} {n1 n2 : Nat} {xs : List M.Ins} (h1 : Rd W0 l 3 v1 n1 (insC xs)) (h2 : Rd W0 l 3 v2 n2 (insC xs)) (hn : n1 ≤ 4294967296) (h : Run W0 l (K (.bool true))) : Run W0 l (callS P 11 #[v1, v2] K pn) := by
  have hl1 : xs.length = n1 := rd_len insV_len (by omega) h1
  have hl2 : xs.length = n2 := rd_len insV_len (by omega) h2
  have hnn : n2 = n1 := by omega
  subst hnn
  refine r11 ?_
  unfold S11
  obtain ⟨a1, c1, rfl, _⟩ := h1.form
  obtain ⟨a2, c2, rfl, _⟩ := h2.form
  try simp only [pureE, pureT, Nat.zero_add, Nat.reduceAdd, Bool.not_false, Bool.not_true]
  rw [show ((n2 : Int) != (n2 : Int)) = false from by simp]
  try simp only [pureE, pureT, Nat.zero_add, Nat.reduceAdd, Bool.not_false, Bool.not_true]
  refine run_loop (Inv := fun s : Nat => s ≤ n2) (J := fun s => [.slice a1 n2 c1, .slice a2 n2 c2, IV s]) (H := fun _ => l) (μ := fun s => n2 - s) 0 (by omega) rfl (fun _ hw => hw) ?_
  intro s e hs he
  simp only [List.map_cons, List.map_nil, List.cons.injEq, and_true] at he
  obtain ⟨e0, e1, e5⟩ := he
  unfold S11_l1
  simp only [e0, e1, e5]
  try simp only [pureE, pureT, Nat.zero_add, Nat.reduceAdd, Bool.not_false, Bool.not_true]
  by_cases hlt : s < n2
  · rw [dec_t (show (s : Int) < n2 by omega)]
    try simp only [pureE, pureT, Nat.zero_add, Nat.reduceAdd, Bool.not_false, Bool.not_true]
    obtain ⟨x, hx⟩ : ∃ x, xs[s]? = some x := ⟨_, List.getElem?_eq_getElem (by omega)⟩
    refine run_draw l (fun _ hw => hw) ?_
    refine run_rd_idxP un36 ty69 insV_len (by omega) h1 s hx fun b o hc => ?_
    try simp only [pureE, pureT, Nat.zero_add, Nat.reduceAdd, Bool.not_false, Bool.not_true]
    refine take_ld sc3 (hc.fld (k := 0) rfl) ?_
    refine run_rd_idxP un41 ty75 insV_len (by omega) h2 s hx fun b o hc => ?_
    try simp only [pureE, pureT, Nat.zero_add, Nat.reduceAdd, Bool.not_false, Bool.not_true]
    refine take_ld sc3 (hc.fld (k := 0) rfl) ?_
    try simp only [pureE, pureT, Nat.zero_add, Nat.reduceAdd, Bool.not_false, Bool.not_true]
    rw [show (x.op != x.op) = false from by simp]
    try simp only [pureE, pureT, Nat.zero_add, Nat.reduceAdd, Bool.not_false, Bool.not_true]
    refine run_rd_idxP un36 ty69 insV_len (by omega) h1 s hx fun b o hc => ?_
    try simp only [pureE, pureT, Nat.zero_add, Nat.reduceAdd, Bool.not_false, Bool.not_true]
    refine take_ld sc3 (hc.fld (k := 1) rfl) ?_
    try simp only [pureE, pureT, Nat.zero_add, Nat.reduceAdd, Bool.not_false, Bool.not_true]
    refine run_rd_idxP un41 ty75 insV_len (by omega) h2 s hx fun b o hc => ?_
    try simp only [pureE, pureT, Nat.zero_add, Nat.reduceAdd, Bool.not_false, Bool.not_true]
    refine take_ld sc3 (hc.fld (k := 1) rfl) ?_
    try simp only [pureE, pureT, Nat.zero_add, Nat.reduceAdd, Bool.not_false, Bool.not_true]
    rw [show (x.a != x.a) = false from by simp]
    try simp only [pureE, pureT, Nat.zero_add, Nat.reduceAdd, Bool.not_false, Bool.not_true]
    refine run_rd_idxP un36 ty69 insV_len (by omega) h1 s hx fun b o hc => ?_
    try simp only [pureE, pureT, Nat.zero_add, Nat.reduceAdd, Bool.not_false, Bool.not_true]
    refine take_ld sc2 (hc.fld (k := 2) rfl) ?_
    try simp only [pureE, pureT, Nat.zero_add, Nat.reduceAdd, Bool.not_false, Bool.not_true]
    refine run_rd_idxP un41 ty75 insV_len (by omega) h2 s hx fun b o hc => ?_
    try simp only [pureE, pureT, Nat.zero_add, Nat.reduceAdd, Bool.not_false, Bool.not_true]
    refine take_ld sc2 (hc.fld (k := 2) rfl) ?_
    try simp only [pureE, pureT, Nat.zero_add, Nat.reduceAdd, Bool.not_false, Bool.not_true]
    rw [show (x.n != x.n) = false from by simp]
    try simp only [pureE, pureT, Nat.zero_add, Nat.reduceAdd, Bool.not_false, Bool.not_true]
    rw [wrN (x := (s : Int) + 1) (s + 1) (by omega) (by omega)]
    exact fun w hw => ⟨s + 1, by omega, by omega, rfl, hw⟩
  · rw [dec_f (show ¬ (s : Int) < n2 by omega)]
    try simp only [pureE, pureT, Nat.zero_add, Nat.reduceAdd, Bool.not_false, Bool.not_true]
    exact h

theorem refR_c {l0 : List As} {cv : Value} {gs : List FG} (hc : CodeRd W0 l0 cv gs) (hl0 : ∀ w, St W0 l w → St W0 l0 w) (h5 : gs.length ≤ 5) (h60 : ∀ e ∈ gs, e.1.l.length ≤ 60)
    (h : ∀ lv (gs2 : List FG), (∃ a n c, lv = .slice a n c) → gs2.map (·.1) = gs.map (·.1) → Run W0 (row 74 5 lv gs2.length (gs2.flatMap fnG) :: big ((arOf gs2).map aRow) :: l) (K lv)) : Run W0 l (callS P 8 #[.agg #[cv]] K pn) := by
  refine r8 ?_
  unfold S8
  obtain ⟨a, c, rfl, _, _, _⟩ := hc.top.form
  refine run_box fun b1 => ?_
  refine run_loop (σ := Nat × Value × List FG) (Inv := fun s => s.1 ≤ gs.length ∧ s.2.2.map (·.1) = (gs.map (·.1)).take s.1 ∧ s.2.2.length = s.1) (J := fun s => [Ptr b1, s.2.1, IV s.1])
    (H := fun s => row 74 5 s.2.1 s.1 (s.2.2.flatMap fnG) :: big ((arOf s.2.2).map aRow) :: pt b1 24 [.slice a gs.length c] :: l) (μ := fun s => gs.length - s.1) (0, .slice none 0 0, []) (by simp) rfl (fun w hw => ?_) ?_
  · have h4 : St W0 (big [] :: pt b1 24 [.slice a gs.length c] :: l) w := St.new hw ⟨rfl, rfl, rfl, Nat.le_refl _, fun _ _ _ => rfl⟩ (fun _ => False) (fun _ hx => hx.elim) trivial
    exact St.new h4 ⟨rfl, rfl, rfl, Nat.le_refl _, fun _ _ _ => rfl⟩ (fun _ => False) (fun _ hx => hx.elim) ⟨by simp, .inl ⟨rfl, rfl, fun _ hx => hx⟩⟩
  rintro ⟨i, v, gs2⟩ e ⟨hi, hgs, hgl⟩ he
  simp only [List.map_cons, List.map_nil, List.cons.injEq, and_true] at he hi hgs hgl
  obtain ⟨e1, e3, e4⟩ := he
  unfold S8_l1
  simp only [e1, e3, e4]
  try simp only [pureE, pureT, Nat.zero_add, Nat.reduceAdd, Bool.not_false, Bool.not_true]
  refine run_ld sc22 (cl1 (i := 2) rfl rfl) ?_
  try simp only [pureE, pureT, Nat.zero_add, Nat.reduceAdd, Bool.not_false, Bool.not_true]
  by_cases hlt : i < gs.length
  case neg =>
    rw [dec_f (show ¬ (i : Int) < (gs.length : Int) by omega)]
    try simp only [pureE, pureT, Nat.zero_add, Nat.reduceAdd, Bool.not_false, Bool.not_true]
    refine run_row_rd 0 rfl fun hrd => ?_
    obtain ⟨va, vc, hv, _⟩ := hrd.form
    have hig : i = gs.length := by omega
    rw [List.take_of_length_le (by simp; omega)] at hgs
    refine run_to (row 74 5 v gs2.length (gs2.flatMap fnG) :: big ((arOf gs2).map aRow) :: l) (fun w hw => ?_) (h v gs2 ⟨_, _, _, hv⟩ hgs)
    rw [hgl]
    exact hw.erase 2
  rw [dec_t (show (i : Int) < (gs.length : Int) by omega)]
  try simp only [pureE, pureT, Nat.zero_add, Nat.reduceAdd, Bool.not_false, Bool.not_true]
  obtain ⟨⟨f, fv⟩, hg⟩ : ∃ g, gs[i]? = some g := ⟨_, List.getElem?_eq_getElem hlt⟩
  have hgm := List.mem_of_getElem? hg
  have hfr := hc.fns _ hgm
  have hf60 := h60 _ hgm
  simp only at hfr hf60
  obtain ⟨fa, fc, rfl, _, _, _⟩ := hfr.form
  have hT : ∀ {L : List As}, (∀ w, St W0 L w → St W0 l w) → Rd W0 L 5 (.slice a gs.length c) gs.length (gs.flatMap fnG) := fun hL => hc.top.mono fun w hw => hl0 w (hL w hw)
  have hF : ∀ {L : List As}, (∀ w, St W0 L w → St W0 l w) → Rd W0 L 3 (.slice fa f.l.length fc) f.l.length (insC f.l) := fun hL => hfr.mono fun w hw => hl0 w (hL w hw)
  have hgv : fnG (f, .slice fa f.l.length fc) = [.string f.name, IV f.params, IV f.vars, IV f.arrays, .slice fa f.l.length fc] := rfl
  refine run_draw (pt b1 24 [.slice a gs.length c] :: l) (fun w hw => hw.tail.tail) ?_
  try simp only [pureE, pureT, Nat.zero_add, Nat.reduceAdd, Bool.not_false, Bool.not_true]
  refine take_ld sc22 (cl1 (i := 0) rfl rfl) ?_
  refine run_rd_idxP un22 ty59 fnG_len (by omega) (hT (L := pt b1 24 [.slice a gs.length c] :: l) fun w hw => hw.tail) i hg fun b2 o2 hc2 => ?_
  try simp only [pureE, pureT, Nat.zero_add, Nat.reduceAdd, Bool.not_false, Bool.not_true]
  refine take_ld sc9 (hc2.fld (k := 0) rfl) ?_
  try simp only [pureE, pureT, Nat.zero_add, Nat.reduceAdd, Bool.not_false, Bool.not_true]
  refine take_ld sc22 (cl1 (i := 0) rfl rfl) ?_
  refine run_rd_idxP un22 ty59 fnG_len (by omega) (hT (L := pt b1 24 [.slice a gs.length c] :: l) fun w hw => hw.tail) i hg fun b2 o2 hc2 => ?_
  try simp only [pureE, pureT, Nat.zero_add, Nat.reduceAdd, Bool.not_false, Bool.not_true]
  refine take_ld sc3 (hc2.fld (k := 1) rfl) ?_
  try simp only [pureE, pureT, Nat.zero_add, Nat.reduceAdd, Bool.not_false, Bool.not_true]
  refine take_ld sc22 (cl1 (i := 0) rfl rfl) ?_
  refine run_rd_idxP un22 ty59 fnG_len (by omega) (hT (L := pt b1 24 [.slice a gs.length c] :: l) fun w hw => hw.tail) i hg fun b2 o2 hc2 => ?_
  try simp only [pureE, pureT, Nat.zero_add, Nat.reduceAdd, Bool.not_false, Bool.not_true]
  refine take_ld sc3 (hc2.fld (k := 2) rfl) ?_
  try simp only [pureE, pureT, Nat.zero_add, Nat.reduceAdd, Bool.not_false, Bool.not_true]
  refine take_ld sc22 (cl1 (i := 0) rfl rfl) ?_
  refine run_rd_idxP un22 ty59 fnG_len (by omega) (hT (L := pt b1 24 [.slice a gs.length c] :: l) fun w hw => hw.tail) i hg fun b2 o2 hc2 => ?_
  try simp only [pureE, pureT, Nat.zero_add, Nat.reduceAdd, Bool.not_false, Bool.not_true]
  refine take_ld sc3 (hc2.fld (k := 3) rfl) ?_
  refine run_px (.agg #[.string f.name, IV f.params, IV f.vars, IV f.arrays, .slice none 0 0]) (fun w => by kernel_rfl) ?_
  refine run_alloc ty74 fun b5 => ?_
  refine run_and (fun w hw => hw.tail.tail.tail) ?_
  refine run_st ty74 (i := 0) rfl rfl (by simp [Value.cells, Value.oneCell']) (by simp [Value.cells]) ?_
  refine run_and (fun w hw => hw.tail.tail.tail) ?_
  refine run_to (pt b5 74 [.string f.name, IV f.params, IV f.vars, IV f.arrays, .slice none 0 0] :: row 74 5 v i (gs2.flatMap fnG) :: big ((arOf gs2).map aRow) :: pt b1 24 [.slice a gs.length c] :: l) (fun w hw => hw) ?_
  refine run_loop (σ := Nat × Value) (Inv := fun s => s.1 ≤ f.l.length) (J := fun s => [Ptr b1, v, IV i, Ptr b5, IV s.1])
    (H := fun s => row 75 3 s.2 s.1 (insC (f.l.take s.1)) :: pt b5 74 [.string f.name, IV f.params, IV f.vars, IV f.arrays, s.2] :: row 74 5 v i (gs2.flatMap fnG) :: big ((arOf gs2).map aRow) :: pt b1 24 [.slice a gs.length c] :: l) (μ := fun s => f.l.length - s.1) (0, .slice none 0 0) (by simp) rfl (fun w hw => ?_) ?_
  · exact St.new hw ⟨rfl, rfl, rfl, Nat.le_refl _, fun _ _ _ => rfl⟩ (fun _ => False) (fun _ hx => hx.elim) ⟨by simp, .inl ⟨rfl, rfl, fun _ hx => hx⟩⟩
  rintro ⟨k, u⟩ e hk he
  simp only [List.map_cons, List.map_nil, List.cons.injEq, and_true] at he hk
  obtain ⟨e1, e3, e4, e5, e6⟩ := he
  unfold S8_l2
  simp only [e1, e3, e4, e5, e6]
  try simp only [pureE, pureT, Nat.zero_add, Nat.reduceAdd, Bool.not_false, Bool.not_true]
  have hT5 : Rd W0 (row 75 3 u k (insC (f.l.take k)) :: pt b5 74 [.string f.name, IV f.params, IV f.vars, IV f.arrays, u] :: row 74 5 v i (gs2.flatMap fnG) :: big ((arOf gs2).map aRow) :: pt b1 24 [.slice a gs.length c] :: l) 5 (.slice a gs.length c) gs.length (gs.flatMap fnG) := hT fun w hw => hw.tail.tail.tail.tail.tail
  have hF5 : Rd W0 (row 75 3 u k (insC (f.l.take k)) :: pt b5 74 [.string f.name, IV f.params, IV f.vars, IV f.arrays, u] :: row 74 5 v i (gs2.flatMap fnG) :: big ((arOf gs2).map aRow) :: pt b1 24 [.slice a gs.length c] :: l) 3 (.slice fa f.l.length fc) f.l.length (insC f.l) := hF fun w hw => hw.tail.tail.tail.tail.tail
  refine run_ld sc22 (cl1 (i := 4) rfl rfl) ?_
  refine run_rd_idx un22 ty59 fnG_len (by omega) hT5 i hg fun b2 o2 hc2 => ?_
  try simp only [pureE, pureT, Nat.zero_add, Nat.reduceAdd, Bool.not_false, Bool.not_true]
  refine run_ld sc36 (hc2.fld (k := 4) rfl) ?_
  try simp only [pureE, pureT, Nat.zero_add, Nat.reduceAdd, Bool.not_false, Bool.not_true]
  by_cases hkl : k < f.l.length
  · rw [dec_t (show (k : Int) < (f.l.length : Int) by omega)]
    try simp only [pureE, pureT, Nat.zero_add, Nat.reduceAdd, Bool.not_false, Bool.not_true]
    obtain ⟨y, hy⟩ : ∃ y, f.l[k]? = some y := ⟨_, List.getElem?_eq_getElem hkl⟩
    refine run_ld sc22 (cl1 (i := 4) rfl rfl) ?_
    refine run_rd_idx un22 ty59 fnG_len (by omega) hT5 i hg fun b2 o2 hc2 => ?_
    try simp only [pureE, pureT, Nat.zero_add, Nat.reduceAdd, Bool.not_false, Bool.not_true]
    refine run_ld sc36 (hc2.fld (k := 4) rfl) ?_
    refine run_rd_idx un36 ty69 insV_len (by omega) hF5 k hy fun b3 o3 hc3 => ?_
    refine run_lda ag69 ty69 rfl hc3 ?_
    refine run_alloc ty69 fun b7 => ?_
    refine run_st ty69 (i := 0) rfl rfl (by simp [insV, Value.cells, Value.oneCell']) (by simp [Value.cells]) ?_
    refine run_to (pt b7 69 (insV y) :: row 75 3 u k (insC (f.l.take k)) :: pt b5 74 [.string f.name, IV f.params, IV f.vars, IV f.arrays, u] :: row 74 5 v i (gs2.flatMap fnG) :: big ((arOf gs2).map aRow) :: pt b1 24 [.slice a gs.length c] :: l) (fun w hw => hw) ?_
    try simp only [pureE, pureT, Nat.zero_add, Nat.reduceAdd, Bool.not_false, Bool.not_true]
    refine run_ld sc41 (cl1 (i := 2) rfl rfl) ?_
    try simp only [pureE, pureT, Nat.zero_add, Nat.reduceAdd, Bool.not_false, Bool.not_true]
    refine run_ld sc3 (cl1 (i := 0) rfl rfl) ?_
    try simp only [pureE, pureT, Nat.zero_add, Nat.reduceAdd, Bool.not_false, Bool.not_true]
    refine run_ld sc3 (cl1 (i := 0) rfl rfl) ?_
    try simp only [pureE, pureT, Nat.zero_add, Nat.reduceAdd, Bool.not_false, Bool.not_true]
    refine run_ld sc2 (cl1 (i := 0) rfl rfl) ?_
    refine run_nx (insA y) (fun w => by kernel_rfl) ?_
    refine run_buildSlice (insV y) un41 ty75 (by omega) (by omega) (fill75 _) fun bb => ?_
    refine run_append (m := 1) 2 un41 ty75 rfl rfl (Rd.pt (i := 0) rfl 3 rfl) (insV_one _) (by unfold maxLen; omega) (by omega) (by omega) fun u' _ => ?_
    refine run_row_rd 2 rfl fun hrd => ?_
    obtain ⟨ua, uc, hu, _⟩ := hrd.form
    subst hu
    try simp only [pureE, pureT, Nat.zero_add, Nat.reduceAdd, Bool.not_false, Bool.not_true]
    refine run_st ty41 (i := 3) rfl rfl (by simp [Value.cells, Value.oneCell']) (by simp [Value.cells]) ?_
    rw [wrN (x := (k : Int) + 1) (k + 1) (by omega) (by omega)]
    refine run_to (row 75 3 (Value.slice ua (k + 1) uc) (k + 1) (insC (f.l.take (k + 1))) :: pt b5 74 [.string f.name, IV f.params, IV f.vars, IV f.arrays, Value.slice ua (k + 1) uc] :: row 74 5 v i (gs2.flatMap fnG) :: big ((arOf gs2).map aRow) :: pt b1 24 [.slice a gs.length c] :: l) (fun w hw => ?_) fun w hw => ⟨(k + 1, Value.slice ua (k + 1) uc), by simp only; omega, by simp only; omega, rfl, hw⟩
    have e1 : insC (f.l.take (k + 1)) = insC (f.l.take k) ++ insV y := by
      rw [List.take_add_one, hy]
      simp [insC]
    rw [e1]
    exact (hw.erase 0).erase 0
  · rw [dec_f (show ¬ (k : Int) < (f.l.length : Int) by omega)]
    try simp only [pureE, pureT, Nat.zero_add, Nat.reduceAdd, Bool.not_false, Bool.not_true]
    have hkf : k = f.l.length := by omega
    subst hkf
    refine run_row_rd 0 rfl fun hrd => ?_
    obtain ⟨ua, uc, hu, _⟩ := hrd.form
    subst hu
    refine run_lda ag74 ty74 (xs := [.string f.name, IV f.params, IV f.vars, IV f.arrays, Value.slice ua f.l.length uc]) rfl (cl_all (i := 1) rfl) ?_
    refine run_buildSlice (fnG (f, Value.slice ua f.l.length uc)) un34 ty74 (by omega) (by omega) (by kernel_rfl) fun bb => ?_
    refine run_append (m := 1) 3 un34 ty74 rfl rfl (Rd.pt (i := 0) rfl 5 rfl) (fnG_one _ rfl) (by unfold maxLen; omega) (by omega) (by omega) fun v' _ => ?_
    try simp only [pureE, pureT, Nat.zero_add, Nat.reduceAdd, Bool.not_false, Bool.not_true]
    rw [wrN (x := (i : Int) + 1) (i + 1) (by omega) (by omega)]
    refine run_to (row 74 5 v' (i + 1) ((gs2 ++ [(f, Value.slice ua f.l.length uc)]).flatMap fnG) :: big ((arOf (gs2 ++ [(f, Value.slice ua f.l.length uc)])).map aRow) :: pt b1 24 [.slice a gs.length c] :: l) (fun w hw => ?_) fun w hw => ⟨(i + 1, v', gs2 ++ [(f, Value.slice ua f.l.length uc)]), by simp only; omega, ⟨by simp only; omega, ?_, by simp [hgl]⟩, rfl, hw⟩
    · rw [List.take_length] at hw
      have g1 : St W0 (row 75 3 (Value.slice ua f.l.length uc) f.l.length (insC f.l) :: row 74 5 v' (i + 1) (gs2.flatMap fnG ++ fnG (f, Value.slice ua f.l.length uc)) :: big ((arOf gs2).map aRow) :: pt b1 24 [.slice a gs.length c] :: l) w := (St.erase hw 0).erase 1
      have g2 : St W0 (aRow (Value.slice ua f.l.length uc, f.l) :: big ((arOf gs2).map aRow) :: row 74 5 v' (i + 1) (gs2.flatMap fnG ++ fnG (f, Value.slice ua f.l.length uc)) :: pt b1 24 [.slice a gs.length c] :: l) w := (g1.front 2).front 1
      have g3 := (St.push g2).front 1
      simp only [arOf, List.map_append, List.map_cons, List.map_nil, List.flatMap_append, List.flatMap_cons, List.flatMap_nil, List.append_nil]
      exact g3
    · simp only [List.map_append, List.map_cons, List.map_nil, hgs]
      rw [List.take_add_one, List.getElem?_map, hg]
      rfl
end
end Go.Proofs.YtkonigmefmgepaaGreatDoor
