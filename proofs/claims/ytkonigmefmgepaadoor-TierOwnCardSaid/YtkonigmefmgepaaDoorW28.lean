/- The law TierOwn, walked (own work). -/
import Derived.Test.YtkonigmefmgepaaDoorW26
namespace Go.Proofs.YtkonigmefmgepaaDoor
open Go.RowKit
set_option linter.unusedVariables false
set_option linter.unusedSimpArgs false

theorem rep_set {α : Type} (z : α) {xs : List α} {k : Nat} (h : k < xs.length) : (List.replicate k z ++ xs.drop k).set k z = List.replicate (k + 1) z ++ xs.drop (k + 1) := by
  rw [List.set_append_right _ _ (by simp), List.length_replicate, Nat.sub_self, List.drop_eq_getElem_cons h, List.set_cons_zero, List.replicate_succ', List.append_assoc]
  rfl
theorem rep_len {α : Type} (z : α) {xs : List α} {k : Nat} (h : k ≤ xs.length) : (List.replicate k z ++ xs.drop k).length = xs.length := by
  rw [List.length_append, List.length_replicate, List.length_drop]; omega

section
variable {W0 : World} {l : List As} {K : Value → C} {pn : Pn}

theorem over3_c {R : List As} {v lv : Value} {ba bb s : Nat} {es : List (Int × Int)} {nx1 : List Value → C} (hn : es.length ≤ 4294967296) (h : Run W0 R (nx1 [lv, .bool true, Ptr ba, Ptr bb, .int .i64 (IntKind.i64.wrap ((s : Int) + 1))])) :
    Run W0 (row 44 2 v es.length (es.flatMap evV) :: R) (LoopS [lv, .bool true, Ptr ba, Ptr bb, IV s, v, IV 0] [0, 3, 7, 8, 9, 18, 19] fun nx3 e => S8_l3 nx1 nx3 K pn e) := by
  refine run_row_rd 0 rfl fun hr => ?_
  obtain ⟨a, c, rfl, _, _, _⟩ := hr.form
  refine run_loop (Inv := fun k : Nat => k ≤ es.length) (J := fun k => [lv, .bool true, Ptr ba, Ptr bb, IV s, .slice a es.length c, IV k]) (H := fun k => row 44 2 (.slice a es.length c) es.length ((List.replicate k ((0, 0) : Int × Int) ++ es.drop k).flatMap evV) :: R) (μ := fun k => es.length - k) 0 (by simp) rfl (fun w hw => hw) ?_
  intro k e hk he
  simp only [List.map_cons, List.map_nil, List.cons.injEq, and_true] at he
  obtain ⟨e0, e3, e7, e8, e9, e18, e19⟩ := he
  unfold S8_l3
  simp only [e0, e3, e7, e8, e9, e18, e19]
  try simp only [pureE, pureT, Nat.zero_add, Nat.reduceAdd, Bool.not_false, Bool.not_true]
  by_cases hlt : k < es.length
  · rw [dec_t (show (k : Int) < (es.length : Int) by omega)]
    try simp only [pureE, pureT, Nat.zero_add, Nat.reduceAdd, Bool.not_false, Bool.not_true]
    refine run_row_cases 0 rfl (fun _ h2 _ => absurd h2 (by omega)) fun b cp hv hnc hcm hxl => ?_
    simp only [Value.slice.injEq] at hv
    obtain ⟨rfl, _, rfl⟩ := hv
    refine run_nx (.agg #[IV 0, IV 0]) (fun w => by kernel_rfl) ?_
    refine run_nx _ (fun w => pv_idx un40 ty44 (i := (k : Int)) (by omega) (by omega)) ?_
    rw [Int.toNat_natCast, Nat.zero_add]
    refine run_st_row ty44 (i := 0) rfl rfl (by simp [Value.cells, Value.oneCell']) ?_ ?_
    · rw [flat_len evV_len, rep_len _ (by omega)]
      omega
    try simp only [pureE, pureT, Nat.zero_add, Nat.reduceAdd, Bool.not_false, Bool.not_true]
    rw [wrN (x := (k : Int) + 1) (k + 1) (by omega) (by omega)]
    refine run_to (row 44 2 (.slice (some ⟨b, 0, none⟩) es.length c) es.length ((List.replicate (k + 1) ((0, 0) : Int × Int) ++ es.drop (k + 1)).flatMap evV) :: R) (fun w hw => ?_) ?_
    · have hs := flat_splice1 (f := evV) evV_len (List.replicate k ((0, 0) : Int × Int) ++ es.drop k) (0, 0) (k := k) (by rw [rep_len _ (by omega)]; exact hlt)
      rw [rep_set _ hlt] at hs
      rw [← hs]
      exact hw
    exact fun w hw => ⟨k + 1, by omega, by omega, rfl, hw⟩
  · rw [dec_f (show ¬ (k : Int) < (es.length : Int) by omega)]
    try simp only [pureE, pureT, Nat.zero_add, Nat.reduceAdd, Bool.not_false, Bool.not_true]
    exact run_drop h
theorem over2_c {R : List As} {v lv : Value} {ba bb s : Nat} {body : List M.Ins} {nx1 : List Value → C} (hn : body.length ≤ 4294967296)
    (h : Run W0 R (callS P 15 #[Ptr ba] (fun x121 => LoopS [lv, .bool true, Ptr ba, Ptr bb, IV s, x121, IV 0] [0, 3, 7, 8, 9, 18, 19] fun nx3 e => S8_l3 nx1 nx3 K pn e) pn)) :
    Run W0 (row 51 3 v body.length (insC body) :: R) (LoopS [lv, .bool true, Ptr ba, Ptr bb, IV s, v, IV 0] [0, 3, 7, 8, 9, 11, 17] fun nx2 e => S8_l2 nx1 nx2 K pn e) := by
  refine run_row_rd 0 rfl fun hr => ?_
  obtain ⟨a, c, rfl, _, _, _⟩ := hr.form
  refine run_loop (Inv := fun k : Nat => k ≤ body.length) (J := fun k => [lv, .bool true, Ptr ba, Ptr bb, IV s, .slice a body.length c, IV k]) (H := fun k => row 51 3 (.slice a body.length c) body.length (insC (List.replicate k (⟨77, 0, 0⟩ : M.Ins) ++ body.drop k)) :: R) (μ := fun k => body.length - k) 0 (by simp) rfl (fun w hw => hw) ?_
  intro k e hk he
  simp only [List.map_cons, List.map_nil, List.cons.injEq, and_true] at he
  obtain ⟨e0, e3, e7, e8, e9, e11, e17⟩ := he
  unfold S8_l2
  simp only [e0, e3, e7, e8, e9, e11, e17]
  try simp only [pureE, pureT, Nat.zero_add, Nat.reduceAdd, Bool.not_false, Bool.not_true]
  by_cases hlt : k < body.length
  · rw [dec_t (show (k : Int) < (body.length : Int) by omega)]
    try simp only [pureE, pureT, Nat.zero_add, Nat.reduceAdd, Bool.not_false, Bool.not_true]
    refine run_row_cases 0 rfl (fun _ h2 _ => absurd h2 (by omega)) fun b cp hv hnc hcm hxl => ?_
    simp only [Value.slice.injEq] at hv
    obtain ⟨rfl, _, rfl⟩ := hv
    refine run_nx (insA ⟨77, 0, 0⟩) (fun w => by kernel_rfl) ?_
    refine run_nx _ (fun w => pv_idx un35 ty51 (i := (k : Int)) (by omega) (by omega)) ?_
    rw [Int.toNat_natCast, Nat.zero_add]
    refine run_st_row ty51 (i := 0) rfl rfl (by simp [Value.cells, insA, insV, Value.oneCell']) ?_ ?_
    · rw [flat_len insV_len, rep_len _ (by omega)]
      omega
    try simp only [pureE, pureT, Nat.zero_add, Nat.reduceAdd, Bool.not_false, Bool.not_true]
    rw [wrN (x := (k : Int) + 1) (k + 1) (by omega) (by omega)]
    refine run_to (row 51 3 (.slice (some ⟨b, 0, none⟩) body.length c) body.length (insC (List.replicate (k + 1) (⟨77, 0, 0⟩ : M.Ins) ++ body.drop (k + 1))) :: R) (fun w hw => ?_) ?_
    · have hs := flat_splice1 (f := insV) insV_len (List.replicate k (⟨77, 0, 0⟩ : M.Ins) ++ body.drop k) ⟨77, 0, 0⟩ (k := k) (by rw [rep_len _ (by omega)]; exact hlt)
      rw [rep_set _ hlt] at hs
      unfold insC
      rw [← hs]
      exact hw
    exact fun w hw => ⟨k + 1, by omega, by omega, rfl, hw⟩
  · rw [dec_f (show ¬ (k : Int) < (body.length : Int) by omega)]
    try simp only [pureE, pureT, Nat.zero_add, Nat.reduceAdd, Bool.not_false, Bool.not_true]
    exact run_drop h

theorem own_c {lv : Value} {ks : List Int} (g : Glb W0) (hk : Rd W0 [] 1 lv ks.length (numC ks)) (hR : ∀ n ∈ ks, M.R n) (h : Run W0 [] (K (.bool true))) : Run W0 [] (callS P 8 #[lv] K pn) := by
  obtain ⟨al, cl', rfl, _, _, _⟩ := hk.form
  refine r8 ?_
  unfold S8
  refine shown_c g ?_
  refine pairO_c fun cv gs hgs hg2 hg4 => ?_
  obtain ⟨p0, p1, rfl⟩ : ∃ p0 p1, gs = [p0, p1] := by
    match gs, hg2 with
    | [p0, p1], _ => exact ⟨p0, p1, rfl⟩
  obtain ⟨f1, vp1⟩ := p1
  have hf1 : f1 = ⟨⟨#[102]⟩, 1, 1, 0, [⟨2, 0, 0⟩, ⟨1, 0, 3⟩, ⟨8, 0, 0⟩, ⟨18, 0, 0⟩]⟩ := by
    have := congrArg (·[1]?) hgs
    simpa [fnsOf, M.pairM] using this
  have hf1l : f1.l.length = 4 := by rw [hf1]; rfl
  refine run_row_rd 0 rfl fun hr0 => ?_
  obtain ⟨a1, c1, rfl, _, _, _⟩ := hr0.form
  refine run_alloc ty24 fun b4 => ?_
  refine run_st ty24 (i := 0) rfl rfl (by simp [Value.cells, Value.oneCell']) (by simp [Value.cells]) ?_
  refine run_to (pt b4 24 [.slice a1 2 c1] :: row 46 5 (.slice a1 2 c1) 2 ([p0, (f1, vp1)].flatMap fnG) :: big ([p0, (f1, vp1)].map fRow) :: []) (fun w hw => hw) ?_
  refine run_buildSlice [.bool true] un34 ty4 (by omega) (by omega) (by kernel_rfl) fun b1 => ?_
  refine run_buildSlice ((pubPair b1).flatMap pV) un25 ty34 (by omega) (by omega) (by kernel_rfl) fun b2 => ?_
  refine run_buildSlice (numC [2, 0, 0]) un26 ty2 (by omega) (by omega) (by kernel_rfl) fun b3 => ?_
  refine run_lda ag24 ty24 (xs := [.slice a1 2 c1]) rfl (cl_all (i := 3) rfl) ?_
  refine pairNew_c (ks := [2, 0, 0]) (i1 := 2) (i2 := 1) (i3 := 4) (i4 := 5) (by simp) (Rd.pt (i := 0) rfl 1 rfl) hgs rfl hg4 rfl rfl rfl rfl fun ba ta => ?_
  refine pairO_c fun cvb gsb hgsb hgb2 hgb4 => ?_
  refine run_buildSlice [.bool true] un34 ty4 (by omega) (by omega) (by kernel_rfl) fun b1b => ?_
  refine run_buildSlice ((pubPair b1b).flatMap pV) un25 ty34 (by omega) (by omega) (by kernel_rfl) fun b2b => ?_
  refine run_buildSlice (numC [2]) un26 ty2 (by omega) (by omega) (by kernel_rfl) fun b3b => ?_
  refine pairNew_c (ks := [2]) (i1 := 2) (i2 := 1) (i3 := 3) (i4 := 4) (by simp) (Rd.pt (i := 0) rfl 1 rfl) hgsb hgb2 hgb4 rfl rfl rfl rfl fun bb tb => ?_
  refine run_nx (.bool false) (fun w => pv_eqlPN un30) ?_
  try simp only [pureE, pureT, Nat.zero_add, Nat.reduceAdd, Bool.not_false, Bool.not_true]
  refine run_nx (.bool false) (fun w => pv_eqlPN un30) ?_
  try simp only [pureE, pureT, Nat.zero_add, Nat.reduceAdd, Bool.not_false, Bool.not_true]
  -- what was handed in is written over
  refine run_to (fRow (f1, vp1) :: mgrA bb tb (M.newM M.pairM [[], [true]] 1 [2]) :: mgrA ba ta (M.newM M.pairM [[], [true]] 1 [2, 0, 0]) :: pt b3 2 (numC [2, 0, 0]) :: pt b2 34 ((pubPair b1).flatMap pV) :: pt b1 4 [.bool true] :: pt b4 24 [.slice a1 2 c1] :: row 46 5 (.slice a1 2 c1) 2 ([p0, (f1, vp1)].flatMap fnG) :: []) (fun w hw => ?_) ?_
  · have k1 : St W0 (mgrA bb tb (M.newM M.pairM [[], [true]] 1 [2]) :: pt b3b 2 (numC [2]) :: pt b2b 34 ((pubPair b1b).flatMap pV) :: pt b1b 4 [.bool true] :: row 46 5 cvb gsb.length (gsb.flatMap fnG) :: big (gsb.map fRow) :: mgrA ba ta (M.newM M.pairM [[], [true]] 1 [2, 0, 0]) :: pt b3 2 (numC [2, 0, 0]) :: pt b2 34 ((pubPair b1).flatMap pV) :: pt b1 4 [.bool true] :: pt b4 24 [.slice a1 2 c1] :: row 46 5 (.slice a1 2 c1) 2 ([p0, (f1, vp1)].flatMap fnG) :: big ([p0, (f1, vp1)].map fRow) :: []) w := hw
    have k2 : St W0 (mgrA bb tb (M.newM M.pairM [[], [true]] 1 [2]) :: mgrA ba ta (M.newM M.pairM [[], [true]] 1 [2, 0, 0]) :: pt b3 2 (numC [2, 0, 0]) :: pt b2 34 ((pubPair b1).flatMap pV) :: pt b1 4 [.bool true] :: pt b4 24 [.slice a1 2 c1] :: row 46 5 (.slice a1 2 c1) 2 ([p0, (f1, vp1)].flatMap fnG) :: big [fRow p0, fRow (f1, vp1)] :: []) w := ((((k1.erase 1).erase 1).erase 1).erase 1).erase 1
    have k3 : St W0 (fRow p0 :: fRow (f1, vp1) :: mgrA bb tb (M.newM M.pairM [[], [true]] 1 [2]) :: mgrA ba ta (M.newM M.pairM [[], [true]] 1 [2, 0, 0]) :: pt b3 2 (numC [2, 0, 0]) :: pt b2 34 ((pubPair b1).flatMap pV) :: pt b1 4 [.bool true] :: pt b4 24 [.slice a1 2 c1] :: row 46 5 (.slice a1 2 c1) 2 ([p0, (f1, vp1)].flatMap fnG) :: []) w := k2.openB (i := 7) rfl
    exact k3.tail
  refine run_row_cases (E := 51) (sz := 3) (v := vp1) (n := f1.l.length) (xs := insC f1.l) 0 rfl (fun _ h2 _ => absurd h2 (by omega)) fun bv cp hv hnc hcm hxl => ?_
  subst hv
  refine run_ld sc22 (cl1 (i := 6) rfl rfl) ?_
  refine run_row_rd (E := 46) (sz := 5) (v := .slice a1 2 c1) (n := 2) (xs := [p0, (f1, .slice (some ⟨bv, 0, none⟩) f1.l.length cp)].flatMap fnG) 7 rfl fun hrc => ?_
  refine run_rd_idx un22 ty46 fnG_len (by omega) hrc 1 (x := (f1, .slice (some ⟨bv, 0, none⟩) f1.l.length cp)) rfl fun bp op hcp => ?_
  try simp only [pureE, pureT, Nat.zero_add, Nat.reduceAdd, Bool.not_false, Bool.not_true]
  refine run_ld sc35 (hcp.fld (k := 4) (v := .slice (some ⟨bv, 0, none⟩) f1.l.length cp) rfl) ?_
  refine run_nx (insA ⟨25, 0, 0⟩) (fun w => by kernel_rfl) ?_
  refine run_nx _ (fun w => pv_idx un35 ty51 (i := 0) (by omega) (by omega)) ?_
  refine run_st_row ty51 (i := 0) (E := 51) (sz := 3) (b := bv) (n := f1.l.length) (c := cp) (xs := insC f1.l) (o := 0) rfl rfl (by simp [Value.cells, insA, insV, Value.oneCell']) (by rw [flat_len insV_len]; omega) ?_
  refine run_drop ?_
  refine run_nx _ (fun w => pv_idx un25 ty34 (i := 1) (by omega) (by omega)) ?_
  refine run_ld sc34 (cl1 (i := 3) (b := b2) (T := 34) (o := 1) (cs := (pubPair b1).flatMap pV) rfl (v := .slice (some ⟨b1, 0, none⟩) 1 1) rfl) ?_
  refine run_nx _ (fun w => pv_idx un34 ty4 (i := 0) (by omega) (by omega)) ?_
  refine run_st ty4 (i := 4) (b := b1) (E := 4) (o := 0) (cs := [.bool true]) rfl rfl (by simp [Value.cells, Value.oneCell']) (by simp) ?_
  refine run_nx _ (fun w => pv_idx un26 ty2 (i := 0) (by omega) (by omega)) ?_
  refine run_st ty2 (i := 2) (b := b3) (E := 2) (o := 0) (cs := numC [2, 0, 0]) rfl rfl (by simp [Value.cells, Value.oneCell']) (by simp [numC, numV]) ?_
  refine run_to (mgrA bb tb (M.newM M.pairM [[], [true]] 1 [2]) :: mgrA ba ta (M.newM M.pairM [[], [true]] 1 [2, 0, 0]) :: []) (fun w hw => ?_) ?_
  · have k1 : St W0 (mgrA bb tb (M.newM M.pairM [[], [true]] 1 [2]) :: mgrA ba ta (M.newM M.pairM [[], [true]] 1 [2, 0, 0]) :: _ :: _ :: _ :: _ :: _ :: []) w := hw
    exact ((((k1.erase 2).erase 2).erase 2).erase 2).erase 2
  -- the calls
  have hoka : M.Ok (M.newM M.pairM [[], [true]] 1 [2, 0, 0]) := pairM_ok _ _ _
  have hokb : M.Ok (M.newM M.pairM [[], [true]] 1 [2]) := pairM_ok _ _ _
  have hrg : M.Rng (M.newM M.pairM [[], [true]] 1 [2, 0, 0]) := pairM_rng _ _ _
  refine run_loop (σ := Nat × M.Mgr × M.Mgr) (Inv := fun s => (s.1 ≤ ks.length ∧ s.1 ≤ 20) ∧ M.SameP s.2.1 s.2.2 ∧ M.Ok s.2.1 ∧ M.Ok s.2.2 ∧ M.Rng s.2.1 ∧ s.2.2.fns.length = 2 ∧ s.2.1.events.length ≤ 3 * s.1) (J := fun s => [.slice al ks.length cl', .bool true, Ptr ba, Ptr bb, IV s.1])
    (H := fun s => mgrA bb tb s.2.2 :: mgrA ba ta s.2.1 :: []) (μ := fun s => 20 - s.1) (0, M.newM M.pairM [[], [true]] 1 [2, 0, 0], M.newM M.pairM [[], [true]] 1 [2]) ⟨⟨by simp, by simp⟩, M.SameP.own, hoka, hokb, hrg, rfl, Nat.le_refl _⟩ rfl (fun w hw => hw) ?_
  rintro ⟨s, ma, mb⟩ e ⟨⟨hs1, hs2⟩, hsame, hoka, hokb, hrg, hfl, hevl⟩ he
  simp only [List.map_cons, List.map_nil, List.cons.injEq, and_true] at he hs1 hs2 hsame hoka hokb hrg hfl hevl
  obtain ⟨e0, e3, e7, e8, e9⟩ := he
  have heq : ma.events = mb.events := by
    have := hsame.eq
    rw [this]
  unfold S8_l1
  simp only [e0, e3, e7, e8, e9]
  try simp only [pureE, pureT, Nat.zero_add, Nat.reduceAdd, Bool.not_false, Bool.not_true]
  have fin : Run W0 (mgrA bb tb mb :: mgrA ba ta ma :: []) (callS P 15 #[Ptr ba] (fun x135 => callS P 15 #[Ptr bb] (fun x137 => callS P 14 #[x135, x137] (fun x138 => K x138) pn) pn) pn) := by
    refine events_c (i := 1) rfl (by omega) fun v1 => ?_
    refine events_c (i := 1) rfl (by rw [← heq]; omega) fun v2 => ?_
    refine run_row_rd 0 rfl fun hr2 => ?_
    refine run_row_rd 1 rfl fun hr1 => ?_
    refine events2_c hr1 hr2 (by omega) ?_
    rw [decide_eq_true heq]
    exact h.of fun w hw => hw.nil
  by_cases h6 : s < ks.length
  case neg =>
    rw [dec_f (show ¬ (s : Int) < (ks.length : Int) by omega)]
    try simp only [pureE, pureT, Nat.zero_add, Nat.reduceAdd, Bool.not_false, Bool.not_true]
    exact fin
  rw [dec_t (show (s : Int) < (ks.length : Int) by omega)]
  try simp only [pureE, pureT, Nat.zero_add, Nat.reduceAdd, Bool.not_false, Bool.not_true]
  by_cases h7 : s < 20
  case neg =>
    rw [dec_f (show ¬ (s : Int) < 20 by omega)]
    try simp only [pureE, pureT, Nat.zero_add, Nat.reduceAdd, Bool.not_false, Bool.not_true]
    exact fin
  rw [dec_t (show (s : Int) < 20 by omega)]
  try simp only [pureE, pureT, Nat.zero_add, Nat.reduceAdd, Bool.not_false, Bool.not_true]
  obtain ⟨x, hx⟩ : ∃ x, ks[s]? = some x := ⟨_, List.getElem?_eq_getElem h6⟩
  have hRx := hR x (List.mem_of_getElem? hx)
  refine run_rd_idx (l0 := []) un26 ty2 numV_len (by omega) hk s hx fun b6 o6 hc6 => ?_
  refine run_ld sc2 (hc6.mono fun w hw => hw.nil) ?_
  refine run_buildSlice (numV x) un26 ty2 (by omega) (by omega) (by kernel_rfl) fun bx => ?_
  refine enter_c (i := 2) (s := ma) (args := [x]) (m := 1) rfl (Rd.pt (i := 0) rfl 1 (by simp [numV])) hoka (by omega) fun v1 => ?_
  have hok' := hoka.enter 1 [x]
  obtain ⟨hrg', hRI⟩ := hrg.enter hoka 1 (args := [x]) fun y hy => by simp only [List.mem_singleton] at hy; rw [hy]; exact hRx
  have hel := (M.enterM_ev ma 1 [x]).1
  have hbl := M.enterM_len hoka 1 [x]
  have hokb' := hokb.enter 1 [x]
  have hfl' := (M.enterM_ev mb 1 [x]).2
  obtain ⟨hres, hsame'⟩ := hsame.enter 1 [x] (by rw [hfl]; decide)
  generalize hra : M.enterM ma 1 [x] = ra at *
  refine run_row_rd 0 rfl fun hr1 => ?_
  obtain ⟨a21, c21, rfl, _, _, _⟩ := hr1.form
  try simp only [pureE, pureT, Nat.zero_add, Nat.reduceAdd, Bool.not_false, Bool.not_true]
  refine run_rd_idx (l0 := []) un26 ty2 numV_len (by omega) hk s hx fun b7 o7 hc7 => ?_
  refine run_ld sc2 (hc7.mono fun w hw => hw.nil) ?_
  refine enter1_c (i := 2) (s := mb) rfl hokb (by rw [← heq]; omega) fun by2 a22 c22 => ?_
  rw [← hres]
  generalize hrb : (M.enterM mb 1 [x]).2 = mb' at *
  try simp only [pureE, pureT, Nat.zero_add, Nat.reduceAdd, Bool.not_false, Bool.not_true]
  refine run_to (row 51 3 (.slice a22 ra.1.1.length c22) ra.1.1.length (insC ra.1.1) :: row 51 3 (.slice a21 ra.1.1.length c21) ra.1.1.length (insC ra.1.1) :: pt bx 2 (numV x) :: mgrA bb tb mb' :: mgrA ba ta ra.2 :: []) (fun w hw => ?_) ?_
  · have k1 : St W0 (row 51 3 (.slice a22 ra.1.1.length c22) ra.1.1.length (insC ra.1.1) :: pt by2 2 [IV x] :: row 51 3 (.slice a21 ra.1.1.length c21) ra.1.1.length (insC ra.1.1) :: pt bx 2 (numV x) :: mgrA bb tb mb' :: mgrA ba ta ra.2 :: []) w := hw
    exact k1.erase 1
  refine run_row_rd 0 rfl fun hr22 => ?_
  refine run_row_rd 1 rfl fun hr21 => ?_
  refine run_draw [pt bx 2 (numV x)] (fun w hw => hw.at (i := 2) rfl) ?_
  refine texts_c g hr21 hr22 hbl hRI rfl (run_and (fun w hw => hw.at (i := 2) rfl) ?_)
  try simp only [pureE, pureT, Nat.zero_add, Nat.reduceAdd, Bool.not_false, Bool.not_true]
  refine run_px (.bool !(ra.1.2.1 == ra.1.2.1)) (fun w => pv_neqB un4) ?_
  rw [show (!(ra.1.2.1 == ra.1.2.1)) = false from by simp]
  try simp only [pureE, pureT, Nat.zero_add, Nat.reduceAdd, Bool.not_false, Bool.not_true]
  rw [show (ra.1.2.2 != ra.1.2.2) = false from by simp]
  try simp only [pureE, pureT, Nat.zero_add, Nat.reduceAdd, Bool.not_false, Bool.not_true]
  refine run_rd_idxP (l0 := [pt bx 2 (numV x)]) un26 ty2 numV_len (by omega) (n := 1) (xs := [x]) (Rd.pt (i := 0) rfl 1 (by simp [numV])) 0 rfl fun b12 o12 hc12 => ?_
  refine take_ld sc2 hc12 ?_
  refine run_rd_idxP (l0 := []) un26 ty2 numV_len (by omega) hk s hx fun b13 o13 hc13 => ?_
  refine take_ld sc2 (hc13.mono fun w hw => hw.nil) ?_
  try simp only [pureE, pureT, Nat.zero_add, Nat.reduceAdd, Bool.not_false, Bool.not_true]
  rw [show (x != x) = false from by simp]
  try simp only [pureE, pureT, Nat.zero_add, Nat.reduceAdd, Bool.not_false, Bool.not_true]
  refine run_drop ?_
  refine over2_c hbl ?_
  refine run_drop ?_
  refine events_c (i := 1) (s := ra.2) rfl (by omega) fun v5 => ?_
  refine over3_c (by omega) ?_
  rw [wrN (x := (s : Int) + 1) (s + 1) (by omega) (by omega)]
  exact fun w hw => ⟨(s + 1, ra.2, mb'), by simp only; omega, ⟨⟨by simp only; omega, by simp only; omega⟩, hsame', hok', hokb', hrg', (congrArg List.length hfl').trans hfl, by simp only; omega⟩, rfl, hw⟩
end
end Go.Proofs.YtkonigmefmgepaaDoor
