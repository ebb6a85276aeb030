/- The law TierCharges, walked (own work). -/
import Derived.Test.YtkonigmefmgepaaDoorW23
namespace Go.Proofs.YtkonigmefmgepaaDoor
open Go.RowKit
set_option linter.unusedVariables false
set_option linter.unusedSimpArgs false

section
variable {W0 : World} {l : List As} {K : Value → C} {pn : Pn}
theorem eqBool (a b : Bool) (w : World) : (Op.equal 4 (.bool a) (.bool b)).run P w = .ok (a == b) w := by
  show (Op.equalIn (9999 + 1) 4 _ _).run P w = _
  rw [Op.equalIn]
  simp [run_underlying un4]
/-- Few functions of the code that came in: kept at the first place. -/
theorem fewIn_c {cv : Value} {gs : List FG} (hc : CodeRd W0 [] cv gs)
    (h : ∀ (cv' : Value) (gs' : List FG), fnsOf gs' = M.fewM (fnsOf gs) → gs'.length ≤ 5 → (∀ e ∈ gs', e.1.l.length ≤ 60) → (∀ e ∈ gs', Rd W0 [] 3 e.2 e.1.l.length (insC e.1.l)) →
      Run W0 (row 46 5 cv' gs'.length (gs'.flatMap fnG) :: l) (K (.agg #[cv']))) : Run W0 l (callS P 10 #[.agg #[cv]] K pn) := by
  refine few_c hc (fun w hw => hw.nil) fun cv' gs' hgs hrd => ?_
  have hfs : fnsOf gs' = M.fewM (fnsOf gs) := hgs
  have hlen := few_len (fnsOf gs)
  rw [← hfs] at hlen
  refine h cv' gs' hfs ?_ (fun e he => hlen.2 e.1 (List.mem_map_of_mem he)) hrd
  have := hlen.1
  unfold fnsOf at this
  rwa [List.length_map] at this
theorem lenI_eq {gs : List FG} {k : Nat} {e : FG} (h : gs[k]? = some e) : M.lenI (fnsOf gs) (k : Int) = e.1.l.length := by
  unfold M.lenI fnsOf
  rw [List.getElem?_map]
  simp only [Int.toNat_natCast, h, Option.map_some]

theorem charges_c {cv pv kv lv : Value} {gs : List FG} {ps : List PG} {ks : List Int} {qs : List Ask} {cap : Int} (g : Glb W0) (hc : CodeRd W0 [] cv gs) (hpr : PubRd W0 [] pv ps) (hk : Rd W0 [] 1 kv ks.length (numC ks)) (hl : AskRd W0 lv qs)
    (h3 : ps.length * 24 ≤ 140737488355328) (h4 : ∀ e ∈ ps, e.2.length ≤ 140737488355328)
    (h : Run W0 [] (K (.bool true))) : Run W0 [] (callS P 5 #[.agg #[cv], pv, IV cap, kv, lv] K pn) := by
  obtain ⟨ak, ck, rfl, _, _, _⟩ := hk.form
  obtain ⟨al, cl', rfl, _, _, _⟩ := hl.top.form
  obtain ⟨a0, c0, rfl, _, _, _⟩ := hc.top.form
  refine r5 ?_
  unfold S5
  refine run_box fun b5 => ?_
  refine shown_c g ?_
  refine run_lda ag24 ty24 (xs := [.slice a0 gs.length c0]) rfl (cl_all (i := 0) rfl) ?_
  refine fewIn_c hc fun cv' gs' hfs hg5 hg60 hrd => ?_
  refine run_row_rd 0 rfl fun hr0 => ?_
  obtain ⟨a1, c1, rfl, _, _, _⟩ := hr0.form
  refine run_st ty24 (i := 1) rfl rfl (by simp [Value.cells, Value.oneCell']) (by simp [Value.cells]) ?_
  refine run_to (row 46 5 (.slice a1 gs'.length c1) gs'.length (gs'.flatMap fnG) :: pt b5 24 [.slice a1 gs'.length c1] :: []) (fun w hw => hw) ?_
  refine run_row_rd 0 rfl fun hrc => ?_
  refine run_draw (pt b5 24 [.slice a1 gs'.length c1] :: []) (fun w hw => hw.tail) ?_
  refine take_lda ag24 ty24 (xs := [.slice a1 gs'.length c1]) rfl (cl_all (i := 0) rfl) ?_
  refine run_tk (IV ks.length) (fun w => pv_len un26) ?_
  refine run_tk (IV (min (ks.length : Int) 200)) (fun w => pv_min) ?_
  rw [show min ((ks.length : Nat) : Int) 200 = ((min ks.length 200 : Nat) : Int) by omega]
  refine run_rd_cutHiP (l0 := []) un26 ty2 numV_len (by omega) hk (min ks.length 200) (by omega) fun kv' hk' => ?_
  have hkl : (ks.take (min ks.length 200)).length = min ks.length 200 := by rw [List.length_take]; omega
  refine new_c (ps := ps) (ks := ks.take (min ks.length 200)) ⟨hrc, fun e he => (hrd e he).mono fun w hw => hw.nil⟩ (hpr.mono fun w hw => hw.nil) (by omega) (fun e he => by have := hg60 e he; omega) (by rw [hkl]; exact hk'.mono fun w hw => hw.nil) h3 h4 (by omega) fun b t => (run_and (fun w hw => hw.tail.tail) ?_)
  refine run_nx (.bool false) (fun w => pv_eqlPN un30) ?_
  try simp only [pureE, pureT, Nat.zero_add, Nat.reduceAdd, Bool.not_false, Bool.not_true]
  rw [hfs]
  have hok0 := few_ok (fnsOf gs) (pubOf ps) cap (ks.take (min ks.length 200))
  have hf0 : (M.newM (M.fewM (fnsOf gs)) (pubOf ps) cap (ks.take (min ks.length 200))).fns = fnsOf gs' := hfs.symm
  have he0 : (M.newM (M.fewM (fnsOf gs)) (pubOf ps) cap (ks.take (min ks.length 200))).events.length ≤ 3 * 0 := Nat.le_refl _
  have hk0 : M.KeysIn (M.newM (M.fewM (fnsOf gs)) (pubOf ps) cap (ks.take (min ks.length 200))) := M.KeysIn.new
  generalize M.newM (M.fewM (fnsOf gs)) (pubOf ps) cap (ks.take (min ks.length 200)) = m0 at *
  have hfl : (fnsOf gs').length = gs'.length := by unfold fnsOf; rw [List.length_map]
  refine run_loop (σ := Nat × M.Mgr) (Inv := fun s => (s.1 ≤ qs.length ∧ s.1 ≤ 100) ∧ M.Ok s.2 ∧ M.KeysIn s.2 ∧ s.2.fns = fnsOf gs' ∧ s.2.events.length ≤ 3 * s.1) (J := fun s => [.slice al qs.length cl', Ptr b5, .bool true, Ptr b, IV s.1])
    (H := fun s => mgrA b t s.2 :: row 46 5 (.slice a1 gs'.length c1) gs'.length (gs'.flatMap fnG) :: pt b5 24 [.slice a1 gs'.length c1] :: []) (μ := fun s => 100 - s.1) (0, m0) ⟨⟨by simp, by simp⟩, hok0, hk0, hf0, he0⟩ rfl (fun w hw => hw) ?_
  rintro ⟨i, m⟩ e ⟨⟨hi1, hi2⟩, hok, hkeys, hfns, hevl⟩ he
  simp only [List.map_cons, List.map_nil, List.cons.injEq, and_true] at he hi1 hi2 hok hkeys hfns hevl
  obtain ⟨e4, e5, e11, e12, e13⟩ := he
  unfold S5_l1
  simp only [e4, e5, e11, e12, e13]
  try simp only [pureE, pureT, Nat.zero_add, Nat.reduceAdd, Bool.not_false, Bool.not_true]
  by_cases h6 : i < qs.length
  case neg =>
    rw [dec_f (show ¬ (i : Int) < (qs.length : Int) by omega)]
    try simp only [pureE, pureT, Nat.zero_add, Nat.reduceAdd, Bool.not_false, Bool.not_true]
    exact h.of fun w hw => hw.nil
  rw [dec_t (show (i : Int) < (qs.length : Int) by omega)]
  try simp only [pureE, pureT, Nat.zero_add, Nat.reduceAdd, Bool.not_false, Bool.not_true]
  by_cases h7 : i < 100
  case neg =>
    rw [dec_f (show ¬ (i : Int) < 100 by omega)]
    try simp only [pureE, pureT, Nat.zero_add, Nat.reduceAdd, Bool.not_false, Bool.not_true]
    exact h.of fun w hw => hw.nil
  rw [dec_t (show (i : Int) < 100 by omega)]
  try simp only [pureE, pureT, Nat.zero_add, Nat.reduceAdd, Bool.not_false, Bool.not_true]
  obtain ⟨a, ha⟩ : ∃ a, qs[i]? = some a := ⟨_, List.getElem?_eq_getElem h6⟩
  have ham := List.mem_of_getElem? ha
  refine events_c (i := 0) rfl (by omega) fun v1 => ?_
  refine run_row_rd 0 rfl fun hr1 => ?_
  obtain ⟨ar1, cr1, rfl, _, _, _⟩ := hr1.form
  try simp only [pureE, pureT, Nat.zero_add, Nat.reduceAdd, Bool.not_false, Bool.not_true]
  refine run_draw [] (fun w hw => hw.nil) ?_
  refine run_rd_idxP un27 ty33 askC_len (by omega) hl.top i ha fun b6 o6 hc6 => ?_
  try simp only [pureE, pureT, Nat.zero_add, Nat.reduceAdd, Bool.not_false, Bool.not_true]
  refine take_ld sc3 (hc6.fld (k := 0) rfl) ?_
  refine run_rd_idxP un27 ty33 askC_len (by omega) hl.top i ha fun b7 o7 hc7 => ?_
  try simp only [pureE, pureT, Nat.zero_add, Nat.reduceAdd, Bool.not_false, Bool.not_true]
  refine take_ld sc26 (hc7.fld (k := 1) rfl) ?_
  refine enter_c (i := 1) (args := a.args) rfl ((hl.args a ham).mono fun w hw => hw.nil) hok (by omega) fun v' => run_and (fun w hw => hw.nil) ?_
  obtain ⟨⟨es, hes1, hes2, hes3, hes4, hes5, hes6⟩, hkeys', hfns'⟩ := M.charge_law hkeys hok.len a.fn a.args
  have hok' := hok.enter a.fn a.args
  obtain ⟨body, fast, charge, hres⟩ : ∃ body fast charge, (M.enterM m a.fn a.args).1 = (body, fast, charge) := ⟨_, _, _, rfl⟩
  rw [hres] at hes4 hes5 hes6
  simp only at hes4 hes5 hes6
  rw [hres]
  simp only
  generalize hm' : (M.enterM m a.fn a.args).2 = m' at *
  rw [hfns] at hfns'
  rw [hfns] at hes3 hes4
  rw [hfl] at hes3
  refine run_row_rd 0 rfl fun hre => ?_
  obtain ⟨ae, ce, rfl, _, _, _⟩ := hre.form
  try simp only [pureE, pureT, Nat.zero_add, Nat.reduceAdd, Bool.not_false, Bool.not_true]
  have hlen' : m'.events.length = m.events.length + es.length := by rw [hes1, List.length_append]
  refine run_to (row 51 3 (.slice ae body.length ce) body.length (insC body) :: row 44 2 (.slice ar1 m.events.length cr1) m.events.length (m.events.flatMap evV) :: mgrA b t m' :: row 46 5 (.slice a1 gs'.length c1) gs'.length (gs'.flatMap fnG) :: pt b5 24 [.slice a1 gs'.length c1] :: []) (fun w hw => hw) ?_
  refine events_c (i := 2) rfl (by omega) fun v2 => ?_
  refine run_row_rd 0 rfl fun hr2 => ?_
  obtain ⟨ar2, cr2, rfl, _, _, _⟩ := hr2.form
  try simp only [pureE, pureT, Nat.zero_add, Nat.reduceAdd, Bool.not_false, Bool.not_true]
  rw [dec_f (show ¬ (m'.events.length : Int) < (m.events.length : Int) by omega)]
  try simp only [pureE, pureT, Nat.zero_add, Nat.reduceAdd, Bool.not_false, Bool.not_true]
  rw [wrN (x := (m.events.length : Int) + 3) (m.events.length + 3) (by omega) (by omega), dec_f (show ¬ ((m.events.length + 3 : Nat) : Int) < (m'.events.length : Int) by omega)]
  try simp only [pureE, pureT, Nat.zero_add, Nat.reduceAdd, Bool.not_false, Bool.not_true]
  have hdrop : m'.events.drop m.events.length = es := by rw [hes1, List.drop_left]
  -- the inner loop
  refine run_loop (Inv := fun j : Nat => j ≤ es.length) (J := fun j => [.slice al qs.length cl', Ptr b5, .bool true, Ptr b, IV i, .slice ae body.length ce, .bool fast, IV charge, .slice ar2 m'.events.length cr2, IV (M.wantM (fnsOf gs') (es.take j)), .bool (M.entM (es.take j)), IV ((m.events.length + j : Nat) : Int)])
    (H := fun j => row 44 2 (.slice ar2 m'.events.length cr2) m'.events.length (m'.events.flatMap evV) :: row 51 3 (.slice ae body.length ce) body.length (insC body) :: row 44 2 (.slice ar1 m.events.length cr1) m.events.length (m.events.flatMap evV) :: mgrA b t m' :: row 46 5 (.slice a1 gs'.length c1) gs'.length (gs'.flatMap fnG) :: pt b5 24 [.slice a1 gs'.length c1] :: [])
    (μ := fun j => es.length - j) 0 (by omega) rfl (fun w hw => hw) ?_
  intro j e hj he
  simp only [List.map_cons, List.map_nil, List.cons.injEq, and_true] at he
  obtain ⟨e4, e5, e11, e12, e13, e15, e16, e17, e18, e19, e20, e21⟩ := he
  unfold S5_l2
  simp only [e4, e5, e11, e12, e13, e15, e16, e17, e18, e19, e20, e21]
  try simp only [pureE, pureT, Nat.zero_add, Nat.reduceAdd, Bool.not_false, Bool.not_true]
  by_cases h8 : j < es.length
  case neg =>
    rw [dec_f (show ¬ ((m.events.length + j : Nat) : Int) < (m'.events.length : Int) by omega)]
    try simp only [pureE, pureT, Nat.zero_add, Nat.reduceAdd, Bool.not_false, Bool.not_true]
    rw [List.take_of_length_le (by omega), ← hes4, ← hes5]
    rw [show (charge != charge) = false from by simp]
    try simp only [pureE, pureT, Nat.zero_add, Nat.reduceAdd, Bool.not_false, Bool.not_true]
    refine run_nx (.bool (fast != fast)) (fun w => pv_neqB un4) ?_
    rw [show (fast != fast) = false from by simp]
    try simp only [pureE, pureT, Nat.zero_add, Nat.reduceAdd, Bool.not_false, Bool.not_true]
    have fin : Run W0 (row 44 2 (.slice ar2 m'.events.length cr2) m'.events.length (m'.events.flatMap evV) :: row 51 3 (.slice ae body.length ce) body.length (insC body) :: row 44 2 (.slice ar1 m.events.length cr1) m.events.length (m.events.flatMap evV) :: mgrA b t m' :: row 46 5 (.slice a1 gs'.length c1) gs'.length (gs'.flatMap fnG) :: pt b5 24 [.slice a1 gs'.length c1] :: [])
        (fun w' => ∃ s' : Nat × M.Mgr, 100 - s'.1 < 100 - i ∧ ((s'.1 ≤ qs.length ∧ s'.1 ≤ 100) ∧ M.Ok s'.2 ∧ M.KeysIn s'.2 ∧ s'.2.fns = fnsOf gs' ∧ s'.2.events.length ≤ 3 * s'.1) ∧ [.slice al qs.length cl', Ptr b5, .bool true, Ptr b, IV (s'.1 : Int)] = [.slice al qs.length cl', Ptr b5, .bool true, Ptr b, .int .i64 (IntKind.i64.wrap ((i : Int) + 1))] ∧
          St W0 (mgrA b t s'.2 :: row 46 5 (.slice a1 gs'.length c1) gs'.length (gs'.flatMap fnG) :: pt b5 24 [.slice a1 gs'.length c1] :: []) w') := by
      rw [wrN (x := (i : Int) + 1) (i + 1) (by omega) (by omega)]
      exact fun w hw => ⟨(i + 1, m'), by simp only; omega, ⟨⟨by simp only; omega, by simp only; omega⟩, hok', hkeys', hfns', by simp only; omega⟩, rfl, hw.tail.tail.tail⟩
    by_cases hb : body = []
    · subst hb
      rw [dec_f (show ¬ (0 : Int) < ((([] : List M.Ins).length : Nat) : Int) by simp)]
      try simp only [pureE, pureT, Nat.zero_add, Nat.reduceAdd, Bool.not_false, Bool.not_true]
      exact fin
    · have hpos := List.length_pos_iff.2 hb
      rw [dec_t (show (0 : Int) < ((body.length : Nat) : Int) by omega)]
      have hf := hes6 hb
      rw [← hes5] at hf
      subst hf
      try simp only [pureE, pureT, Nat.zero_add, Nat.reduceAdd, Bool.not_false, Bool.not_true]
      exact fin
  rw [dec_t (show ((m.events.length + j : Nat) : Int) < (m'.events.length : Int) by omega)]
  try simp only [pureE, pureT, Nat.zero_add, Nat.reduceAdd, Bool.not_false, Bool.not_true]
  obtain ⟨ev, hev⟩ : ∃ ev, es[j]? = some ev := ⟨_, List.getElem?_eq_getElem h8⟩
  have hev' : m'.events[m.events.length + j]? = some ev := by rw [hes1, List.getElem?_append_right (by omega), Nat.add_sub_cancel_left]; exact hev
  have hevok := hes3 ev (List.mem_of_getElem? hev)
  unfold M.evOk at hevok
  simp only [Bool.not_eq_true', Bool.or_eq_false_iff, decide_eq_false_iff_not, Bool.and_eq_false_iff] at hevok
  obtain ⟨⟨hq1, hq2⟩, hq3⟩ := hevok
  have htake : es.take (j + 1) = es.take j ++ [ev] := by rw [List.take_add_one, hev]; rfl
  have hwant : M.wantM (fnsOf gs') (es.take (j + 1)) = M.wantE (fnsOf gs') (M.wantM (fnsOf gs') (es.take j)) ev := by rw [htake]; unfold M.wantM; rw [List.foldl_append]; rfl
  have hent : M.entM (es.take (j + 1)) = M.entE (M.entM (es.take j)) ev := by rw [htake]; unfold M.entM; rw [List.foldl_append]; rfl
  refine run_rd_idx un40 ty44 evV_len (by omega) hr2 (m.events.length + j) hev' fun b8 o8 hc8 => ?_
  refine run_lda ag44 ty44 rfl hc8 ?_
  refine run_alloc ty44 fun b9 => ?_
  refine run_st ty44 (i := 0) rfl rfl (by simp [Value.cells, evV, Value.oneCell']) (by simp [Value.cells]) ?_
  refine run_to (pt b9 44 (evV ev) :: row 44 2 (.slice ar2 m'.events.length cr2) m'.events.length (m'.events.flatMap evV) :: row 51 3 (.slice ae body.length ce) body.length (insC body) :: row 44 2 (.slice ar1 m.events.length cr1) m.events.length (m.events.flatMap evV) :: mgrA b t m' :: row 46 5 (.slice a1 gs'.length c1) gs'.length (gs'.flatMap fnG) :: pt b5 24 [.slice a1 gs'.length c1] :: []) (fun w hw => hw) ?_
  refine run_row_rd 5 rfl fun hrc2 => ?_
  refine run_draw (pt b9 44 (evV ev) :: row 44 2 (.slice ar2 m'.events.length cr2) m'.events.length (m'.events.flatMap evV) :: row 51 3 (.slice ae body.length ce) body.length (insC body) :: row 44 2 (.slice ar1 m.events.length cr1) m.events.length (m.events.flatMap evV) :: mgrA b t m' :: row 46 5 (.slice a1 gs'.length c1) gs'.length (gs'.flatMap fnG) :: pt b5 24 [.slice a1 gs'.length c1] :: []) (fun w hw => hw) ?_
  obtain ⟨k, hkk⟩ : ∃ k : Nat, ev.2 = (k : Int) := ⟨ev.2.toNat, by omega⟩
  obtain ⟨fe, hfe⟩ : ∃ fe, gs'[k]? = some fe := ⟨_, List.getElem?_eq_getElem (by omega)⟩
  have hfem := List.mem_of_getElem? hfe
  try simp only [pureE, pureT, Nat.zero_add, Nat.reduceAdd, Bool.not_false, Bool.not_true]
  refine take_ld sc3 (cl1 (i := 0) (cs := evV ev) rfl (v := IV ev.2) rfl) ?_
  try simp only [pureE, pureT, Nat.zero_add, Nat.reduceAdd, Bool.not_false, Bool.not_true]
  rw [dec_f hq1]
  try simp only [pureE, pureT, Nat.zero_add, Nat.reduceAdd, Bool.not_false, Bool.not_true]
  refine take_ld sc3 (cl1 (i := 0) (cs := evV ev) rfl (v := IV ev.2) rfl) ?_
  try simp only [pureE, pureT, Nat.zero_add, Nat.reduceAdd, Bool.not_false, Bool.not_true]
  refine take_ld sc22 (cl1 (i := 6) rfl rfl) ?_
  refine run_tk (IV gs'.length) (fun w => pv_len un22) ?_
  try simp only [pureE, pureT, Nat.zero_add, Nat.reduceAdd, Bool.not_false, Bool.not_true]
  rw [dec_f hq2]
  try simp only [pureE, pureT, Nat.zero_add, Nat.reduceAdd, Bool.not_false, Bool.not_true]
  refine take_ld sc3 (cl1 (i := 0) (cs := evV ev) rfl (v := IV ev.1) rfl) ?_
  try simp only [pureE, pureT, Nat.zero_add, Nat.reduceAdd, Bool.not_false, Bool.not_true]
  obtain ⟨gf, gv⟩ := fe
  have hgrd := hrd _ hfem
  simp only at hgrd
  obtain ⟨a3, c3, rfl, _, _, _⟩ := hgrd.form
  cases h9 : ev.1 != 4
  · try simp only [pureE, pureT, Nat.zero_add, Nat.reduceAdd, Bool.not_false, Bool.not_true]
    refine run_ld sc3 (cl1 (i := 0) (cs := evV ev) rfl (v := IV ev.1) rfl) ?_
    try simp only [pureE, pureT, Nat.zero_add, Nat.reduceAdd, Bool.not_false, Bool.not_true]
    cases hk1 : ev.1 == 1
    case true =>
      try simp only [pureE, pureT, Nat.zero_add, Nat.reduceAdd, Bool.not_false, Bool.not_true]
      refine run_ld sc22 (cl1 (i := 6) rfl rfl) ?_
      refine run_ld sc3 (cl1 (i := 0) (cs := evV ev) rfl (v := IV ev.2) rfl) ?_
      rw [hkk]
      refine run_rd_idx un22 ty46 fnG_len (by omega) hrc2 k hfe fun b12 o12 hc12 => ?_
      try simp only [pureE, pureT, Nat.zero_add, Nat.reduceAdd, Bool.not_false, Bool.not_true]
      refine run_ld sc35 (hc12.fld (k := 4) (v := .slice a3 gf.l.length c3) rfl) ?_
      try simp only [pureE, pureT, Nat.zero_add, Nat.reduceAdd, Bool.not_false, Bool.not_true]
      unfold S5_k3
      try simp only [pureE, pureT, Nat.zero_add, Nat.reduceAdd, Bool.not_false, Bool.not_true]
      rw [wrN (x := ((m.events.length + j : Nat) : Int) + 1) (m.events.length + j + 1) (by omega) (by omega)]
      have hW : M.wantM (fnsOf gs') (es.take (j + 1)) = IntKind.i64.wrap (M.wantM (fnsOf gs') (es.take j) + IntKind.i64.wrap (2 * (gf.l.length : Int))) := by
        rw [hwant]; unfold M.wantE; rw [hk1, hkk, lenI_eq hfe]; rfl
      have hE : M.entM (es.take (j + 1)) = M.entM (es.take j) := by rw [hent]; unfold M.entE; rw [hk1]; rfl
      exact fun w hw => ⟨j + 1, by omega, by omega, by rw [hW, hE]; rfl, hw.tail⟩
    try simp only [pureE, pureT, Nat.zero_add, Nat.reduceAdd, Bool.not_false, Bool.not_true]
    cases hk3 : ev.1 == 3
    case true =>
      try simp only [pureE, pureT, Nat.zero_add, Nat.reduceAdd, Bool.not_false, Bool.not_true]
      unfold S5_k3
      try simp only [pureE, pureT, Nat.zero_add, Nat.reduceAdd, Bool.not_false, Bool.not_true]
      rw [wrN (x := ((m.events.length + j : Nat) : Int) + 1) (m.events.length + j + 1) (by omega) (by omega)]
      have hW : M.wantM (fnsOf gs') (es.take (j + 1)) = IntKind.i64.wrap (M.wantM (fnsOf gs') (es.take j) + 50) := by
        rw [hwant]; unfold M.wantE; rw [hk1, hk3]; rfl
      have hE : M.entM (es.take (j + 1)) = M.entM (es.take j) := by rw [hent]; unfold M.entE; rw [hk1, hk3]; rfl
      exact fun w hw => ⟨j + 1, by omega, by omega, by rw [hW, hE]; rfl, hw.tail⟩
    try simp only [pureE, pureT, Nat.zero_add, Nat.reduceAdd, Bool.not_false, Bool.not_true]
    have hW : M.wantM (fnsOf gs') (es.take (j + 1)) = M.wantM (fnsOf gs') (es.take j) := by rw [hwant]; unfold M.wantE; rw [hk1, hk3]; rfl
    cases hk2 : ev.1 == 2
    case true =>
      try simp only [pureE, pureT, Nat.zero_add, Nat.reduceAdd, Bool.not_false, Bool.not_true]
      unfold S5_k3
      try simp only [pureE, pureT, Nat.zero_add, Nat.reduceAdd, Bool.not_false, Bool.not_true]
      rw [wrN (x := ((m.events.length + j : Nat) : Int) + 1) (m.events.length + j + 1) (by omega) (by omega)]
      have hE : M.entM (es.take (j + 1)) = true := by rw [hent]; unfold M.entE; rw [hk1, hk3, hk2]; rfl
      exact fun w hw => ⟨j + 1, by omega, by omega, by rw [hW, hE]; rfl, hw.tail⟩
    try simp only [pureE, pureT, Nat.zero_add, Nat.reduceAdd, Bool.not_false, Bool.not_true]
    unfold S5_k3
    try simp only [pureE, pureT, Nat.zero_add, Nat.reduceAdd, Bool.not_false, Bool.not_true]
    rw [wrN (x := ((m.events.length + j : Nat) : Int) + 1) (m.events.length + j + 1) (by omega) (by omega)]
    have hE : M.entM (es.take (j + 1)) = M.entM (es.take j) := by rw [hent]; unfold M.entE; rw [hk1, hk3, hk2]; rfl
    exact fun w hw => ⟨j + 1, by omega, by omega, by rw [hW, hE]; rfl, hw.tail⟩
  · try simp only [pureE, pureT, Nat.zero_add, Nat.reduceAdd, Bool.not_false, Bool.not_true]
    refine take_ld sc3 (cl1 (i := 0) (cs := evV ev) rfl (v := IV ev.2) rfl) ?_
    refine run_rd_idxP un27 ty33 askC_len (by omega) hl.top i ha fun b10 o10 hc10 => ?_
    try simp only [pureE, pureT, Nat.zero_add, Nat.reduceAdd, Bool.not_false, Bool.not_true]
    refine take_ld sc3 ((hc10.fld (k := 0) rfl).mono fun w hw => hw.nil) ?_
    try simp only [pureE, pureT, Nat.zero_add, Nat.reduceAdd, Bool.not_false, Bool.not_true]
    have hsame : (ev.2 != a.fn) = false := by
      rcases hq3 with hq3 | hq3
      · rw [h9] at hq3; simp at hq3
      · exact hq3
    rw [hsame]
    try simp only [pureE, pureT, Nat.zero_add, Nat.reduceAdd, Bool.not_false, Bool.not_true]
    refine run_ld sc3 (cl1 (i := 0) (cs := evV ev) rfl (v := IV ev.1) rfl) ?_
    try simp only [pureE, pureT, Nat.zero_add, Nat.reduceAdd, Bool.not_false, Bool.not_true]
    cases hk1 : ev.1 == 1
    case true =>
      try simp only [pureE, pureT, Nat.zero_add, Nat.reduceAdd, Bool.not_false, Bool.not_true]
      refine run_ld sc22 (cl1 (i := 6) rfl rfl) ?_
      refine run_ld sc3 (cl1 (i := 0) (cs := evV ev) rfl (v := IV ev.2) rfl) ?_
      rw [hkk]
      refine run_rd_idx un22 ty46 fnG_len (by omega) hrc2 k hfe fun b12 o12 hc12 => ?_
      try simp only [pureE, pureT, Nat.zero_add, Nat.reduceAdd, Bool.not_false, Bool.not_true]
      refine run_ld sc35 (hc12.fld (k := 4) (v := .slice a3 gf.l.length c3) rfl) ?_
      try simp only [pureE, pureT, Nat.zero_add, Nat.reduceAdd, Bool.not_false, Bool.not_true]
      unfold S5_k3
      try simp only [pureE, pureT, Nat.zero_add, Nat.reduceAdd, Bool.not_false, Bool.not_true]
      rw [wrN (x := ((m.events.length + j : Nat) : Int) + 1) (m.events.length + j + 1) (by omega) (by omega)]
      have hW : M.wantM (fnsOf gs') (es.take (j + 1)) = IntKind.i64.wrap (M.wantM (fnsOf gs') (es.take j) + IntKind.i64.wrap (2 * (gf.l.length : Int))) := by
        rw [hwant]; unfold M.wantE; rw [hk1, hkk, lenI_eq hfe]; rfl
      have hE : M.entM (es.take (j + 1)) = M.entM (es.take j) := by rw [hent]; unfold M.entE; rw [hk1]; rfl
      exact fun w hw => ⟨j + 1, by omega, by omega, by rw [hW, hE]; rfl, hw.tail⟩
    try simp only [pureE, pureT, Nat.zero_add, Nat.reduceAdd, Bool.not_false, Bool.not_true]
    cases hk3 : ev.1 == 3
    case true =>
      try simp only [pureE, pureT, Nat.zero_add, Nat.reduceAdd, Bool.not_false, Bool.not_true]
      unfold S5_k3
      try simp only [pureE, pureT, Nat.zero_add, Nat.reduceAdd, Bool.not_false, Bool.not_true]
      rw [wrN (x := ((m.events.length + j : Nat) : Int) + 1) (m.events.length + j + 1) (by omega) (by omega)]
      have hW : M.wantM (fnsOf gs') (es.take (j + 1)) = IntKind.i64.wrap (M.wantM (fnsOf gs') (es.take j) + 50) := by
        rw [hwant]; unfold M.wantE; rw [hk1, hk3]; rfl
      have hE : M.entM (es.take (j + 1)) = M.entM (es.take j) := by rw [hent]; unfold M.entE; rw [hk1, hk3]; rfl
      exact fun w hw => ⟨j + 1, by omega, by omega, by rw [hW, hE]; rfl, hw.tail⟩
    try simp only [pureE, pureT, Nat.zero_add, Nat.reduceAdd, Bool.not_false, Bool.not_true]
    have hW : M.wantM (fnsOf gs') (es.take (j + 1)) = M.wantM (fnsOf gs') (es.take j) := by rw [hwant]; unfold M.wantE; rw [hk1, hk3]; rfl
    cases hk2 : ev.1 == 2
    case true =>
      try simp only [pureE, pureT, Nat.zero_add, Nat.reduceAdd, Bool.not_false, Bool.not_true]
      unfold S5_k3
      try simp only [pureE, pureT, Nat.zero_add, Nat.reduceAdd, Bool.not_false, Bool.not_true]
      rw [wrN (x := ((m.events.length + j : Nat) : Int) + 1) (m.events.length + j + 1) (by omega) (by omega)]
      have hE : M.entM (es.take (j + 1)) = true := by rw [hent]; unfold M.entE; rw [hk1, hk3, hk2]; rfl
      exact fun w hw => ⟨j + 1, by omega, by omega, by rw [hW, hE]; rfl, hw.tail⟩
    try simp only [pureE, pureT, Nat.zero_add, Nat.reduceAdd, Bool.not_false, Bool.not_true]
    unfold S5_k3
    try simp only [pureE, pureT, Nat.zero_add, Nat.reduceAdd, Bool.not_false, Bool.not_true]
    rw [wrN (x := ((m.events.length + j : Nat) : Int) + 1) (m.events.length + j + 1) (by omega) (by omega)]
    have hE : M.entM (es.take (j + 1)) = M.entM (es.take j) := by rw [hent]; unfold M.entE; rw [hk1, hk3, hk2]; rfl
    exact fun w hw => ⟨j + 1, by omega, by omega, by rw [hW, hE]; rfl, hw.tail⟩
end
end Go.Proofs.YtkonigmefmgepaaDoor
