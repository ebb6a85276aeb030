/- The law TierPublic, walked (own work). -/
import Derived.Test.YtkonigmefmgepaaDoorW24
namespace Go.Proofs.YtkonigmefmgepaaDoor
open Go.RowKit
set_option linter.unusedVariables false
set_option linter.unusedSimpArgs false

section
variable {W0 : World} {l : List As} {K : Value → C} {pn : Pn}

theorem other_len (pub : List (List Bool)) (fn : Int) (args other : List Int) : (M.otherM pub fn args other).length = min args.length 20 := by
  unfold M.otherM
  rw [List.length_mapIdx, List.length_take]
  omega
theorem other_R {pub : List (List Bool)} {fn : Int} {args other : List Int} (h1 : ∀ x ∈ args, M.R x) (h2 : ∀ x ∈ other, M.R x) : ∀ x ∈ M.otherM pub fn args other, M.R x := by
  intro x hx
  unfold M.otherM at hx
  obtain ⟨k, hk, rfl⟩ := List.mem_mapIdx.1 hx
  split
  · cases hq : other[k]? with
    | none => exact M.R0
    | some y => exact h2 y (List.mem_of_getElem? hq)
  · exact h1 _ (List.mem_of_mem_take (List.getElem_mem _))

theorem public_c {cv pv kv lv : Value} {gs : List FG} {ps : List PG} {ks : List Int} {qs : List Ask} {cap : Int} (g : Glb W0) (hc : CodeRd W0 [] cv gs) (hgood : ∀ e ∈ gs, ∀ x ∈ e.1.l, M.RI x) (hpr : PubRd W0 [] pv ps) (hk : Rd W0 [] 1 kv ks.length (numC ks)) (hl : AskRd W0 lv qs)
    (h3 : ps.length * 24 ≤ 140737488355328) (h4 : ∀ e ∈ ps, e.2.length ≤ 140737488355328)
    (h : Run W0 [] (K (.bool true))) : Run W0 [] (callS P 3 #[.agg #[cv], pv, IV cap, kv, lv] K pn) := by
  obtain ⟨ak, ck, rfl, _, _, _⟩ := hk.form
  obtain ⟨al, cl', rfl, _, _, _⟩ := hl.top.form
  obtain ⟨a0, c0, rfl, _, _, _⟩ := hc.top.form
  obtain ⟨ap, cp, rfl, _, _, _⟩ := hpr.top.form
  refine r3 ?_
  unfold S3
  refine run_box fun b5 => ?_
  refine shown_c g ?_
  refine run_lda ag24 ty24 (xs := [.slice a0 gs.length c0]) rfl (cl_all (i := 0) rfl) ?_
  refine fewIn_c hc fun cv' gs' hfs hg5 hg60 hrd => ?_
  refine run_row_rd 0 rfl fun hr0 => ?_
  obtain ⟨a1, c1, rfl, _, _, _⟩ := hr0.form
  refine run_st ty24 (i := 1) rfl rfl (by simp [Value.cells, Value.oneCell']) (by simp [Value.cells]) ?_
  refine run_to (row 46 5 (.slice a1 gs'.length c1) gs'.length (gs'.flatMap fnG) :: pt b5 24 [.slice a1 gs'.length c1] :: []) (fun w hw => hw) ?_
  have hkl : (ks.take (min ks.length 200)).length = min ks.length 200 := by rw [List.length_take]; omega
  refine run_row_rd 0 rfl fun hrc => ?_
  refine run_draw (pt b5 24 [.slice a1 gs'.length c1] :: []) (fun w hw => hw.tail) ?_
  refine take_lda ag24 ty24 (xs := [.slice a1 gs'.length c1]) rfl (cl_all (i := 0) rfl) ?_
  refine run_tk (IV ks.length) (fun w => pv_len un26) ?_
  refine run_tk (IV (min (ks.length : Int) 200)) (fun w => pv_min) ?_
  rw [show min ((ks.length : Nat) : Int) 200 = ((min ks.length 200 : Nat) : Int) by omega]
  refine run_rd_cutHiP (l0 := []) un26 ty2 numV_len (by omega) hk (min ks.length 200) (by omega) fun kv' hk' => ?_
  refine new_c (ps := ps) (ks := ks.take (min ks.length 200)) ⟨hrc, fun e he => (hrd e he).mono fun w hw => hw.nil⟩ (hpr.mono fun w hw => hw.nil) (by omega) (fun e he => by have := hg60 e he; omega) (by rw [hkl]; exact hk'.mono fun w hw => hw.nil) h3 h4 (by omega) fun b t => (run_and (fun w hw => hw.tail.tail) ?_)
  rw [hfs]
  refine run_row_rd 1 rfl fun hrc2 => ?_
  refine run_draw (pt b5 24 [.slice a1 gs'.length c1] :: []) (fun w hw => hw.tail.tail) ?_
  refine take_lda ag24 ty24 (xs := [.slice a1 gs'.length c1]) rfl (cl_all (i := 0) rfl) ?_
  refine run_tk (IV ks.length) (fun w => pv_len un26) ?_
  refine run_tk (IV (min (ks.length : Int) 200)) (fun w => pv_min) ?_
  rw [show min ((ks.length : Nat) : Int) 200 = ((min ks.length 200 : Nat) : Int) by omega]
  refine run_rd_cutHiP (l0 := []) un26 ty2 numV_len (by omega) hk (min ks.length 200) (by omega) fun kv2 hk2 => ?_
  refine new_c (ps := ps) (ks := ks.take (min ks.length 200)) ⟨hrc2, fun e he => (hrd e he).mono fun w hw => hw.nil⟩ (hpr.mono fun w hw => hw.nil) (by omega) (fun e he => by have := hg60 e he; omega) (by rw [hkl]; exact hk2.mono fun w hw => hw.nil) h3 h4 (by omega) fun b2 t2 => (run_and (fun w hw => hw.tail.tail.tail) ?_)
  rw [hfs]
  refine run_nx (.bool false) (fun w => pv_eqlPN un30) ?_
  try simp only [pureE, pureT, Nat.zero_add, Nat.reduceAdd, Bool.not_false, Bool.not_true]
  refine run_nx (.bool false) (fun w => pv_eqlPN un30) ?_
  try simp only [pureE, pureT, Nat.zero_add, Nat.reduceAdd, Bool.not_false, Bool.not_true]
  have hok0 := few_ok (fnsOf gs) (pubOf ps) cap (ks.take (min ks.length 200))
  have hp0 : (M.newM (M.fewM (fnsOf gs)) (pubOf ps) cap (ks.take (min ks.length 200))).pub = pubOf ps := rfl
  have he0 : (M.newM (M.fewM (fnsOf gs)) (pubOf ps) cap (ks.take (min ks.length 200))).events.length ≤ 3 * 0 := Nat.le_refl _
  have hk0 : M.Rng (M.newM (M.fewM (fnsOf gs)) (pubOf ps) cap (ks.take (min ks.length 200))) := by
    refine ⟨?_, by intro e he; simp [M.newM] at he, ?_⟩
    · intro f hf x hx
      have hf' : f ∈ M.fewM (fnsOf gs) := hf
      unfold M.fewM at hf'
      obtain ⟨f2, hf2, rfl⟩ := List.mem_map.1 hf'
      have hf3 := List.mem_of_mem_take hf2
      unfold fnsOf at hf3
      obtain ⟨e, he, rfl⟩ := List.mem_map.1 hf3
      exact hgood e he x (List.mem_of_mem_take hx)
    · intro p hp i
      have hp' : p ∈ M.newP ((M.fewM (fnsOf gs)).map (·.params)) := hp
      simp only [M.newP, List.mem_map] at hp'
      obtain ⟨n, _, rfl⟩ := hp'
      exact M.R0
  generalize M.newM (M.fewM (fnsOf gs)) (pubOf ps) cap (ks.take (min ks.length 200)) = m0 at *
  refine run_loop (σ := Nat × M.Mgr) (Inv := fun s => (s.1 ≤ qs.length ∧ s.1 ≤ 100) ∧ M.Ok s.2 ∧ M.Rng s.2 ∧ s.2.pub = pubOf ps ∧ s.2.events.length ≤ 3 * s.1) (J := fun s => [.slice ap ps.length cp, .slice al qs.length cl', .bool true, Ptr b, Ptr b2, IV s.1])
    (H := fun s => mgrA b2 t2 s.2 :: mgrA b t s.2 :: []) (μ := fun s => 100 - s.1) (0, m0) ⟨⟨by simp, by simp⟩, hok0, hk0, hp0, he0⟩ rfl (fun w hw => ?_) ?_
  · have h8 : St W0 (mgrA b2 t2 m0 :: mgrA b t m0 :: _ :: _ :: []) w := hw
    exact (h8.erase 2).erase 2
  rintro ⟨i, m⟩ e ⟨⟨hi1, hi2⟩, hok, hrng, hpub, hevl⟩ he
  simp only [List.map_cons, List.map_nil, List.cons.injEq, and_true] at he hi1 hi2 hok hrng hpub hevl
  obtain ⟨e1, e4, e11, e12, e13, e14⟩ := he
  unfold S3_l1
  simp only [e1, e4, e11, e12, e13, e14]
  try simp only [pureE, pureT, Nat.zero_add, Nat.reduceAdd, Bool.not_false, Bool.not_true]
  have fin : Run W0 (mgrA b2 t2 m :: mgrA b t m :: []) (callS P 15 #[Ptr b] (fun x193 => callS P 15 #[Ptr b2] (fun x195 => callS P 14 #[x193, x195] (fun x196 => K x196) pn) pn) pn) := by
    refine events_c (i := 1) rfl (by omega) fun v1 => ?_
    refine events_c (i := 1) rfl (by omega) fun v2 => ?_
    refine run_row_rd 0 rfl fun hr2 => ?_
    refine run_row_rd 1 rfl fun hr1 => ?_
    refine events2_c hr1 hr2 (by omega) ?_
    rw [decide_eq_true rfl]
    exact h.of fun w hw => hw.nil
  by_cases h6 : i < qs.length
  case neg =>
    rw [dec_f (show ¬ (i : Int) < (qs.length : Int) by omega)]
    try simp only [pureE, pureT, Nat.zero_add, Nat.reduceAdd, Bool.not_false, Bool.not_true]
    exact fin
  rw [dec_t (show (i : Int) < (qs.length : Int) by omega)]
  try simp only [pureE, pureT, Nat.zero_add, Nat.reduceAdd, Bool.not_false, Bool.not_true]
  by_cases h7 : i < 100
  case neg =>
    rw [dec_f (show ¬ (i : Int) < 100 by omega)]
    try simp only [pureE, pureT, Nat.zero_add, Nat.reduceAdd, Bool.not_false, Bool.not_true]
    exact fin
  rw [dec_t (show (i : Int) < 100 by omega)]
  try simp only [pureE, pureT, Nat.zero_add, Nat.reduceAdd, Bool.not_false, Bool.not_true]
  obtain ⟨a, ha⟩ : ∃ a, qs[i]? = some a := ⟨_, List.getElem?_eq_getElem h6⟩
  have ham := List.mem_of_getElem? ha
  have hra := hl.args a ham
  have hro := hl.other a ham
  have hRa := hl.rArgs a ham
  have hRo := hl.rOther a ham
  obtain ⟨fn, av, args, ov, other⟩ := a
  simp only at hra hro hRa hRo
  obtain ⟨aa, ca, rfl, _, _, _⟩ := hra.form
  obtain ⟨ao, co, rfl, _, _, _⟩ := hro.form
  generalize hA : (⟨fn, .slice aa args.length ca, args, .slice ao other.length co, other⟩ : Ask) = a at *
  have eArgs : a.args = args := by rw [← hA]
  have eOther : a.other = other := by rw [← hA]
  have eFn : a.fn = fn := by rw [← hA]
  have eAv : a.av = .slice aa args.length ca := by rw [← hA]
  have eOv : a.ov = .slice ao other.length co := by rw [← hA]
  subst eArgs
  subst eOther
  subst eFn
  have hother : ∀ (k : Nat) x, a.args[k]? = some x → k < 20 → (M.otherM (pubOf ps) a.fn a.args a.other)[k]? = some (if !M.openI (pubOf ps) a.fn k && decide (k < a.other.length) then (a.other[k]?).getD 0 else x) := by
    intro k x hx hk20
    unfold M.otherM
    rw [List.getElem?_mapIdx, List.getElem?_take, if_pos hk20, hx]
    rfl
  have hol := other_len (pubOf ps) a.fn a.args a.other
  -- the other arguments
  refine run_loop (σ := Nat × Value) (Inv := fun s => s.1 ≤ a.args.length ∧ s.1 ≤ 20) (J := fun s => [.slice ap ps.length cp, .slice al qs.length cl', .bool true, Ptr b, Ptr b2, IV i, s.2, IV s.1])
    (H := fun s => row 2 1 s.2 s.1 (numC ((M.otherM (pubOf ps) a.fn a.args a.other).take s.1)) :: mgrA b2 t2 m :: mgrA b t m :: []) (μ := fun s => 20 - s.1) (0, .slice none 0 0) (by simp) rfl (fun w hw => ?_) ?_
  · exact St.new hw ⟨rfl, rfl, rfl, Nat.le_refl _, fun _ _ _ => rfl⟩ (fun _ => False) (fun _ hx => hx.elim) ⟨by simp, .inl ⟨rfl, rfl, fun _ hx => hx⟩⟩
  rintro ⟨k, v⟩ e ⟨hk1, hk2⟩ he
  simp only [List.map_cons, List.map_nil, List.cons.injEq, and_true] at he hk1 hk2
  obtain ⟨e1, e4, e11, e12, e13, e14, e15, e16⟩ := he
  unfold S3_l2
  simp only [e1, e4, e11, e12, e13, e14, e15, e16]
  have hav : (askC a)[1]? = some (.slice aa a.args.length ca) := by unfold askC; rw [eAv]; rfl
  have hov : (askC a)[2]? = some (.slice ao a.other.length co) := by unfold askC; rw [eOv]; rfl
  have hra' : Rd W0 [] 1 (.slice aa a.args.length ca) a.args.length (numC a.args) := hra
  have hro' : Rd W0 [] 1 (.slice ao a.other.length co) a.other.length (numC a.other) := hro
  refine run_rd_idx (l0 := []) un27 ty33 askC_len (by omega) hl.top i ha fun b6 o6 hc6 => ?_
  try simp only [pureE, pureT, Nat.zero_add, Nat.reduceAdd, Bool.not_false, Bool.not_true]
  refine run_ld sc26 ((hc6.fld (k := 1) hav).mono fun w hw => hw.nil) ?_
  try simp only [pureE, pureT, Nat.zero_add, Nat.reduceAdd, Bool.not_false, Bool.not_true]
  by_cases h8 : k < a.args.length
  case neg =>
    rw [dec_f (show ¬ (k : Int) < (a.args.length : Int) by omega)]
    try simp only [pureE, pureT, Nat.zero_add, Nat.reduceAdd, Bool.not_false, Bool.not_true]
    have hfull : (M.otherM (pubOf ps) a.fn a.args a.other).take k = M.otherM (pubOf ps) a.fn a.args a.other := List.take_of_length_le (by omega)
    have htk : a.args.take (min a.args.length 20) = a.args.take 20 := by
      rcases Nat.le_total a.args.length 20 with hle | hle
      · rw [Nat.min_eq_left hle, List.take_length, List.take_of_length_le hle]
      · rw [Nat.min_eq_right hle]
    rw [hfull]
    refine run_draw [] (fun w hw => hw.nil) ?_
    refine run_rd_idxP un27 ty33 askC_len (by omega) hl.top i ha fun b10 o10 hc10 => ?_
    try simp only [pureE, pureT, Nat.zero_add, Nat.reduceAdd, Bool.not_false, Bool.not_true]
    refine take_ld sc3 (hc10.fld (k := 0) rfl) ?_
    refine run_rd_idxP un27 ty33 askC_len (by omega) hl.top i ha fun b11 o11 hc11 => ?_
    try simp only [pureE, pureT, Nat.zero_add, Nat.reduceAdd, Bool.not_false, Bool.not_true]
    refine take_ld sc26 (hc11.fld (k := 1) hav) ?_
    refine run_rd_idxP un27 ty33 askC_len (by omega) hl.top i ha fun b12 o12 hc12 => ?_
    try simp only [pureE, pureT, Nat.zero_add, Nat.reduceAdd, Bool.not_false, Bool.not_true]
    refine take_ld sc26 (hc12.fld (k := 1) hav) ?_
    refine run_tk (IV a.args.length) (fun w => pv_len un26) ?_
    refine run_tk (IV (min (a.args.length : Int) 20)) (fun w => pv_min) ?_
    rw [show min ((a.args.length : Nat) : Int) 20 = ((min a.args.length 20 : Nat) : Int) by omega]
    refine run_rd_cutHiP (l0 := []) un26 ty2 numV_len (by omega) hra' (min a.args.length 20) (by omega) fun av' hav' => ?_
    rw [htk] at hav'
    refine enter_c (i := 2) (args := a.args.take 20) rfl (hav'.mono fun w hw => hw.nil) hok (by omega) fun v1 => run_and (fun w hw => hw.nil) ?_
    have heq : M.enterM m a.fn (M.otherM (pubOf ps) a.fn a.args a.other) = M.enterM m a.fn (a.args.take 20) := by rw [← hpub]; exact M.enter_other.symm
    have hok' := hok.enter a.fn (a.args.take 20)
    obtain ⟨hrng', hRI⟩ := hrng.enter hok a.fn (args := a.args.take 20) fun x hx => hRa x (List.mem_of_mem_take hx)
    have hpub' := (M.enterM_pub m a.fn (a.args.take 20)).trans hpub
    have hev' := (M.enterM_ev m a.fn (a.args.take 20)).1
    have hbl := M.enterM_len hok a.fn (a.args.take 20)
    refine run_row_rd 0 rfl fun hr1 => ?_
    obtain ⟨a21, c21, rfl, _, _, _⟩ := hr1.form
    try simp only [pureE, pureT, Nat.zero_add, Nat.reduceAdd, Bool.not_false, Bool.not_true]
    refine run_rd_idx (l0 := []) un27 ty33 askC_len (by omega) hl.top i ha fun b13 o13 hc13 => ?_
    try simp only [pureE, pureT, Nat.zero_add, Nat.reduceAdd, Bool.not_false, Bool.not_true]
    refine run_ld sc3 ((hc13.fld (k := 0) rfl).mono fun w hw => hw.nil) ?_
    refine run_row_rd 1 rfl fun hrv => ?_
    refine enter_c (i := 2) (s := m) (args := M.otherM (pubOf ps) a.fn a.args a.other) rfl hrv hok (by omega) fun v2 => ?_
    rw [heq]
    generalize hm' : M.enterM m a.fn (a.args.take 20) = r at *
    refine run_row_rd 0 rfl fun hr2 => ?_
    refine run_row_rd 1 rfl fun hr12 => ?_
    obtain ⟨a22, c22, rfl, _, _, _⟩ := hr2.form
    try simp only [pureE, pureT, Nat.zero_add, Nat.reduceAdd, Bool.not_false, Bool.not_true]
    refine run_nx (.bool !(r.1.2.1 == r.1.2.1)) (fun w => pv_neqB un4) ?_
    rw [show (!(r.1.2.1 == r.1.2.1)) = false from by simp]
    try simp only [pureE, pureT, Nat.zero_add, Nat.reduceAdd, Bool.not_false, Bool.not_true]
    rw [show (r.1.2.2 != r.1.2.2) = false from by simp]
    try simp only [pureE, pureT, Nat.zero_add, Nat.reduceAdd, Bool.not_false, Bool.not_true]
    refine texts_c g hr12 hr2 hbl hRI rfl ?_
    try simp only [pureE, pureT, Nat.zero_add, Nat.reduceAdd, Bool.not_false, Bool.not_true]
    rw [wrN (x := (i : Int) + 1) (i + 1) (by omega) (by omega)]
    exact fun w hw => ⟨(i + 1, r.2), by simp only; omega, ⟨⟨by simp only; omega, by simp only; omega⟩, hok', hrng', hpub', by simp only; omega⟩, rfl, hw.tail.tail.tail⟩
  rw [dec_t (show (k : Int) < (a.args.length : Int) by omega)]
  try simp only [pureE, pureT, Nat.zero_add, Nat.reduceAdd, Bool.not_false, Bool.not_true]
  by_cases h9 : k < 20
  case neg =>
    rw [dec_f (show ¬ (k : Int) < 20 by omega)]
    try simp only [pureE, pureT, Nat.zero_add, Nat.reduceAdd, Bool.not_false, Bool.not_true]
    have hfull : (M.otherM (pubOf ps) a.fn a.args a.other).take k = M.otherM (pubOf ps) a.fn a.args a.other := List.take_of_length_le (by omega)
    have htk : a.args.take (min a.args.length 20) = a.args.take 20 := by
      rcases Nat.le_total a.args.length 20 with hle | hle
      · rw [Nat.min_eq_left hle, List.take_length, List.take_of_length_le hle]
      · rw [Nat.min_eq_right hle]
    rw [hfull]
    refine run_draw [] (fun w hw => hw.nil) ?_
    refine run_rd_idxP un27 ty33 askC_len (by omega) hl.top i ha fun b10 o10 hc10 => ?_
    try simp only [pureE, pureT, Nat.zero_add, Nat.reduceAdd, Bool.not_false, Bool.not_true]
    refine take_ld sc3 (hc10.fld (k := 0) rfl) ?_
    refine run_rd_idxP un27 ty33 askC_len (by omega) hl.top i ha fun b11 o11 hc11 => ?_
    try simp only [pureE, pureT, Nat.zero_add, Nat.reduceAdd, Bool.not_false, Bool.not_true]
    refine take_ld sc26 (hc11.fld (k := 1) hav) ?_
    refine run_rd_idxP un27 ty33 askC_len (by omega) hl.top i ha fun b12 o12 hc12 => ?_
    try simp only [pureE, pureT, Nat.zero_add, Nat.reduceAdd, Bool.not_false, Bool.not_true]
    refine take_ld sc26 (hc12.fld (k := 1) hav) ?_
    refine run_tk (IV a.args.length) (fun w => pv_len un26) ?_
    refine run_tk (IV (min (a.args.length : Int) 20)) (fun w => pv_min) ?_
    rw [show min ((a.args.length : Nat) : Int) 20 = ((min a.args.length 20 : Nat) : Int) by omega]
    refine run_rd_cutHiP (l0 := []) un26 ty2 numV_len (by omega) hra' (min a.args.length 20) (by omega) fun av' hav' => ?_
    rw [htk] at hav'
    refine enter_c (i := 2) (args := a.args.take 20) rfl (hav'.mono fun w hw => hw.nil) hok (by omega) fun v1 => run_and (fun w hw => hw.nil) ?_
    have heq : M.enterM m a.fn (M.otherM (pubOf ps) a.fn a.args a.other) = M.enterM m a.fn (a.args.take 20) := by rw [← hpub]; exact M.enter_other.symm
    have hok' := hok.enter a.fn (a.args.take 20)
    obtain ⟨hrng', hRI⟩ := hrng.enter hok a.fn (args := a.args.take 20) fun x hx => hRa x (List.mem_of_mem_take hx)
    have hpub' := (M.enterM_pub m a.fn (a.args.take 20)).trans hpub
    have hev' := (M.enterM_ev m a.fn (a.args.take 20)).1
    have hbl := M.enterM_len hok a.fn (a.args.take 20)
    refine run_row_rd 0 rfl fun hr1 => ?_
    obtain ⟨a21, c21, rfl, _, _, _⟩ := hr1.form
    try simp only [pureE, pureT, Nat.zero_add, Nat.reduceAdd, Bool.not_false, Bool.not_true]
    refine run_rd_idx (l0 := []) un27 ty33 askC_len (by omega) hl.top i ha fun b13 o13 hc13 => ?_
    try simp only [pureE, pureT, Nat.zero_add, Nat.reduceAdd, Bool.not_false, Bool.not_true]
    refine run_ld sc3 ((hc13.fld (k := 0) rfl).mono fun w hw => hw.nil) ?_
    refine run_row_rd 1 rfl fun hrv => ?_
    refine enter_c (i := 2) (s := m) (args := M.otherM (pubOf ps) a.fn a.args a.other) rfl hrv hok (by omega) fun v2 => ?_
    rw [heq]
    generalize hm' : M.enterM m a.fn (a.args.take 20) = r at *
    refine run_row_rd 0 rfl fun hr2 => ?_
    refine run_row_rd 1 rfl fun hr12 => ?_
    obtain ⟨a22, c22, rfl, _, _, _⟩ := hr2.form
    try simp only [pureE, pureT, Nat.zero_add, Nat.reduceAdd, Bool.not_false, Bool.not_true]
    refine run_nx (.bool !(r.1.2.1 == r.1.2.1)) (fun w => pv_neqB un4) ?_
    rw [show (!(r.1.2.1 == r.1.2.1)) = false from by simp]
    try simp only [pureE, pureT, Nat.zero_add, Nat.reduceAdd, Bool.not_false, Bool.not_true]
    rw [show (r.1.2.2 != r.1.2.2) = false from by simp]
    try simp only [pureE, pureT, Nat.zero_add, Nat.reduceAdd, Bool.not_false, Bool.not_true]
    refine texts_c g hr12 hr2 hbl hRI rfl ?_
    try simp only [pureE, pureT, Nat.zero_add, Nat.reduceAdd, Bool.not_false, Bool.not_true]
    rw [wrN (x := (i : Int) + 1) (i + 1) (by omega) (by omega)]
    exact fun w hw => ⟨(i + 1, r.2), by simp only; omega, ⟨⟨by simp only; omega, by simp only; omega⟩, hok', hrng', hpub', by simp only; omega⟩, rfl, hw.tail.tail.tail⟩
  rw [dec_t (show (k : Int) < 20 by omega)]
  try simp only [pureE, pureT, Nat.zero_add, Nat.reduceAdd, Bool.not_false, Bool.not_true]
  obtain ⟨x, hx⟩ : ∃ x, a.args[k]? = some x := ⟨_, List.getElem?_eq_getElem h8⟩
  generalize hO : M.otherM (pubOf ps) a.fn a.args a.other = O at *
  refine run_rd_idx (l0 := []) un27 ty33 askC_len (by omega) hl.top i ha fun b7 o7 hc7 => ?_
  try simp only [pureE, pureT, Nat.zero_add, Nat.reduceAdd, Bool.not_false, Bool.not_true]
  refine run_ld sc26 ((hc7.fld (k := 1) hav).mono fun w hw => hw.nil) ?_
  refine run_rd_idx (l0 := []) un26 ty2 numV_len (by omega) hra' k hx fun b8 o8 hc8 => ?_
  refine run_ld sc2 (hc8.mono fun w hw => hw.nil) ?_
  refine run_rd_idx (l0 := []) un27 ty33 askC_len (by omega) hl.top i ha fun b9 o9 hc9 => ?_
  try simp only [pureE, pureT, Nat.zero_add, Nat.reduceAdd, Bool.not_false, Bool.not_true]
  refine run_ld sc3 ((hc9.fld (k := 0) rfl).mono fun w hw => hw.nil) ?_
  try simp only [pureE, pureT, Nat.zero_add, Nat.reduceAdd, Bool.not_false, Bool.not_true]
  by_cases h10 : 0 ≤ a.fn
  case neg =>
    have HO : M.openI (pubOf ps) a.fn k = false := by unfold M.openI; rw [decide_eq_false h10]; rfl
    rw [dec_f h10]
    try simp only [pureE, pureT, Nat.zero_add, Nat.reduceAdd, Bool.not_false, Bool.not_true]
    refine run_rd_idx (l0 := []) un27 ty33 askC_len (by omega) hl.top i ha fun b15 o15 hc15 => ?_
    try simp only [pureE, pureT, Nat.zero_add, Nat.reduceAdd, Bool.not_false, Bool.not_true]
    refine run_ld sc26 ((hc15.fld (k := 2) hov).mono fun w hw => hw.nil) ?_
    try simp only [pureE, pureT, Nat.zero_add, Nat.reduceAdd, Bool.not_false, Bool.not_true]
    by_cases hko : k < a.other.length
    · rw [dec_t (show (k : Int) < (a.other.length : Int) by omega)]
      try simp only [pureE, pureT, Nat.zero_add, Nat.reduceAdd, Bool.not_false, Bool.not_true]
      obtain ⟨y, hy⟩ : ∃ y, a.other[k]? = some y := ⟨_, List.getElem?_eq_getElem hko⟩
      refine run_rd_idx (l0 := []) un27 ty33 askC_len (by omega) hl.top i ha fun b16 o16 hc16 => ?_
      try simp only [pureE, pureT, Nat.zero_add, Nat.reduceAdd, Bool.not_false, Bool.not_true]
      refine run_ld sc26 ((hc16.fld (k := 2) hov).mono fun w hw => hw.nil) ?_
      refine run_rd_idx (l0 := []) un26 ty2 numV_len (by omega) hro' k hy fun b17 o17 hc17 => ?_
      refine run_ld sc2 (hc17.mono fun w hw => hw.nil) ?_
      have hq : O[k]? = some y := (hother k x hx h9).trans (by rw [HO, hy]; simp [hko])
      unfold S3_k3
      refine run_buildSlice (numV y) un26 ty2 (by omega) (by omega) (by kernel_rfl) fun b20 => ?_
      refine run_append 1 un26 ty2 rfl rfl (Rd.pt (i := 0) rfl 1 (by simp [numV])) (numV_one _) (by unfold maxLen; omega) (by omega) (by omega) fun v9 _ => ?_
      refine run_drop ?_
      try simp only [pureE, pureT, Nat.zero_add, Nat.reduceAdd, Bool.not_false, Bool.not_true]
      rw [wrN (x := (k : Int) + 1) (k + 1) (by omega) (by omega)]
      refine run_to (row 2 1 v9 (k + 1) (numC (O.take (k + 1))) :: mgrA b2 t2 m :: mgrA b t m :: []) (fun w hw => ?_) ?_
      · rw [List.take_add_one, hq, Option.toList_some]
        simp only [numC, List.flatMap_append, List.flatMap_cons, List.flatMap_nil, List.append_nil]
        exact hw
      exact fun w hw => ⟨(k + 1, v9), by simp only; omega, ⟨by simp only; omega, by simp only; omega⟩, rfl, hw⟩
    · rw [dec_f (show ¬ (k : Int) < (a.other.length : Int) by omega)]
      try simp only [pureE, pureT, Nat.zero_add, Nat.reduceAdd, Bool.not_false, Bool.not_true]
      have hq : O[k]? = some x := (hother k x hx h9).trans (by rw [HO]; simp [hko])
      unfold S3_k3
      refine run_buildSlice (numV x) un26 ty2 (by omega) (by omega) (by kernel_rfl) fun b20 => ?_
      refine run_append 1 un26 ty2 rfl rfl (Rd.pt (i := 0) rfl 1 (by simp [numV])) (numV_one _) (by unfold maxLen; omega) (by omega) (by omega) fun v9 _ => ?_
      refine run_drop ?_
      try simp only [pureE, pureT, Nat.zero_add, Nat.reduceAdd, Bool.not_false, Bool.not_true]
      rw [wrN (x := (k : Int) + 1) (k + 1) (by omega) (by omega)]
      refine run_to (row 2 1 v9 (k + 1) (numC (O.take (k + 1))) :: mgrA b2 t2 m :: mgrA b t m :: []) (fun w hw => ?_) ?_
      · rw [List.take_add_one, hq, Option.toList_some]
        simp only [numC, List.flatMap_append, List.flatMap_cons, List.flatMap_nil, List.append_nil]
        exact hw
      exact fun w hw => ⟨(k + 1, v9), by simp only; omega, ⟨by simp only; omega, by simp only; omega⟩, rfl, hw⟩
  rw [dec_t h10]
  try simp only [pureE, pureT, Nat.zero_add, Nat.reduceAdd, Bool.not_false, Bool.not_true]
  obtain ⟨f, hf⟩ : ∃ f : Nat, a.fn = (f : Int) := ⟨a.fn.toNat, by omega⟩
  rw [hf]
  have hoI : M.openI (pubOf ps) a.fn k = M.openM (pubOf ps) f k := by
    unfold M.openI
    rw [decide_eq_true h10, hf]
    rfl
  by_cases h11 : f < ps.length
  case neg =>
    have HO : M.openI (pubOf ps) a.fn k = false := by
      rw [hoI]; unfold M.openM pubOf
      rw [List.getElem?_eq_none (by simp; omega)]
    rw [dec_f (show ¬ (f : Int) < (ps.length : Int) by omega)]
    try simp only [pureE, pureT, Nat.zero_add, Nat.reduceAdd, Bool.not_false, Bool.not_true]
    refine run_rd_idx (l0 := []) un27 ty33 askC_len (by omega) hl.top i ha fun b15 o15 hc15 => ?_
    try simp only [pureE, pureT, Nat.zero_add, Nat.reduceAdd, Bool.not_false, Bool.not_true]
    refine run_ld sc26 ((hc15.fld (k := 2) hov).mono fun w hw => hw.nil) ?_
    try simp only [pureE, pureT, Nat.zero_add, Nat.reduceAdd, Bool.not_false, Bool.not_true]
    by_cases hko : k < a.other.length
    · rw [dec_t (show (k : Int) < (a.other.length : Int) by omega)]
      try simp only [pureE, pureT, Nat.zero_add, Nat.reduceAdd, Bool.not_false, Bool.not_true]
      obtain ⟨y, hy⟩ : ∃ y, a.other[k]? = some y := ⟨_, List.getElem?_eq_getElem hko⟩
      refine run_rd_idx (l0 := []) un27 ty33 askC_len (by omega) hl.top i ha fun b16 o16 hc16 => ?_
      try simp only [pureE, pureT, Nat.zero_add, Nat.reduceAdd, Bool.not_false, Bool.not_true]
      refine run_ld sc26 ((hc16.fld (k := 2) hov).mono fun w hw => hw.nil) ?_
      refine run_rd_idx (l0 := []) un26 ty2 numV_len (by omega) hro' k hy fun b17 o17 hc17 => ?_
      refine run_ld sc2 (hc17.mono fun w hw => hw.nil) ?_
      have hq : O[k]? = some y := (hother k x hx h9).trans (by rw [HO, hy]; simp [hko])
      unfold S3_k3
      refine run_buildSlice (numV y) un26 ty2 (by omega) (by omega) (by kernel_rfl) fun b20 => ?_
      refine run_append 1 un26 ty2 rfl rfl (Rd.pt (i := 0) rfl 1 (by simp [numV])) (numV_one _) (by unfold maxLen; omega) (by omega) (by omega) fun v9 _ => ?_
      refine run_drop ?_
      try simp only [pureE, pureT, Nat.zero_add, Nat.reduceAdd, Bool.not_false, Bool.not_true]
      rw [wrN (x := (k : Int) + 1) (k + 1) (by omega) (by omega)]
      refine run_to (row 2 1 v9 (k + 1) (numC (O.take (k + 1))) :: mgrA b2 t2 m :: mgrA b t m :: []) (fun w hw => ?_) ?_
      · rw [List.take_add_one, hq, Option.toList_some]
        simp only [numC, List.flatMap_append, List.flatMap_cons, List.flatMap_nil, List.append_nil]
        exact hw
      exact fun w hw => ⟨(k + 1, v9), by simp only; omega, ⟨by simp only; omega, by simp only; omega⟩, rfl, hw⟩
    · rw [dec_f (show ¬ (k : Int) < (a.other.length : Int) by omega)]
      try simp only [pureE, pureT, Nat.zero_add, Nat.reduceAdd, Bool.not_false, Bool.not_true]
      have hq : O[k]? = some x := (hother k x hx h9).trans (by rw [HO]; simp [hko])
      unfold S3_k3
      refine run_buildSlice (numV x) un26 ty2 (by omega) (by omega) (by kernel_rfl) fun b20 => ?_
      refine run_append 1 un26 ty2 rfl rfl (Rd.pt (i := 0) rfl 1 (by simp [numV])) (numV_one _) (by unfold maxLen; omega) (by omega) (by omega) fun v9 _ => ?_
      refine run_drop ?_
      try simp only [pureE, pureT, Nat.zero_add, Nat.reduceAdd, Bool.not_false, Bool.not_true]
      rw [wrN (x := (k : Int) + 1) (k + 1) (by omega) (by omega)]
      refine run_to (row 2 1 v9 (k + 1) (numC (O.take (k + 1))) :: mgrA b2 t2 m :: mgrA b t m :: []) (fun w hw => ?_) ?_
      · rw [List.take_add_one, hq, Option.toList_some]
        simp only [numC, List.flatMap_append, List.flatMap_cons, List.flatMap_nil, List.append_nil]
        exact hw
      exact fun w hw => ⟨(k + 1, v9), by simp only; omega, ⟨by simp only; omega, by simp only; omega⟩, rfl, hw⟩
  rw [dec_t (show (f : Int) < (ps.length : Int) by omega)]
  try simp only [pureE, pureT, Nat.zero_add, Nat.reduceAdd, Bool.not_false, Bool.not_true]
  obtain ⟨⟨bv, bs⟩, hbs⟩ : ∃ e, ps[f]? = some e := ⟨_, List.getElem?_eq_getElem h11⟩
  have hbr := hpr.fns _ (List.mem_of_getElem? hbs)
  simp only at hbr
  obtain ⟨ab, cb, rfl, _, _, _⟩ := hbr.form
  refine run_rd_idx (l0 := []) un25 ty34 pV_len (by omega) hpr.top f hbs fun b22 o22 hc22 => ?_
  refine run_ld sc34 (hc22.mono fun w hw => hw.nil) ?_
  try simp only [pureE, pureT, Nat.zero_add, Nat.reduceAdd, Bool.not_false, Bool.not_true]
  have hoM : M.openM (pubOf ps) f k = (bs[k]?).getD false := by
    unfold M.openM pubOf
    rw [List.getElem?_map, hbs]
    rfl
  by_cases h12 : k < bs.length
  case neg =>
    have HO : M.openI (pubOf ps) a.fn k = false := by
      rw [hoI, hoM, List.getElem?_eq_none (by omega)]; rfl
    rw [dec_f (show ¬ (k : Int) < (bs.length : Int) by omega)]
    try simp only [pureE, pureT, Nat.zero_add, Nat.reduceAdd, Bool.not_false, Bool.not_true]
    refine run_rd_idx (l0 := []) un27 ty33 askC_len (by omega) hl.top i ha fun b15 o15 hc15 => ?_
    try simp only [pureE, pureT, Nat.zero_add, Nat.reduceAdd, Bool.not_false, Bool.not_true]
    refine run_ld sc26 ((hc15.fld (k := 2) hov).mono fun w hw => hw.nil) ?_
    try simp only [pureE, pureT, Nat.zero_add, Nat.reduceAdd, Bool.not_false, Bool.not_true]
    by_cases hko : k < a.other.length
    · rw [dec_t (show (k : Int) < (a.other.length : Int) by omega)]
      try simp only [pureE, pureT, Nat.zero_add, Nat.reduceAdd, Bool.not_false, Bool.not_true]
      obtain ⟨y, hy⟩ : ∃ y, a.other[k]? = some y := ⟨_, List.getElem?_eq_getElem hko⟩
      refine run_rd_idx (l0 := []) un27 ty33 askC_len (by omega) hl.top i ha fun b16 o16 hc16 => ?_
      try simp only [pureE, pureT, Nat.zero_add, Nat.reduceAdd, Bool.not_false, Bool.not_true]
      refine run_ld sc26 ((hc16.fld (k := 2) hov).mono fun w hw => hw.nil) ?_
      refine run_rd_idx (l0 := []) un26 ty2 numV_len (by omega) hro' k hy fun b17 o17 hc17 => ?_
      refine run_ld sc2 (hc17.mono fun w hw => hw.nil) ?_
      have hq : O[k]? = some y := (hother k x hx h9).trans (by rw [HO, hy]; simp [hko])
      unfold S3_k3
      refine run_buildSlice (numV y) un26 ty2 (by omega) (by omega) (by kernel_rfl) fun b20 => ?_
      refine run_append 1 un26 ty2 rfl rfl (Rd.pt (i := 0) rfl 1 (by simp [numV])) (numV_one _) (by unfold maxLen; omega) (by omega) (by omega) fun v9 _ => ?_
      refine run_drop ?_
      try simp only [pureE, pureT, Nat.zero_add, Nat.reduceAdd, Bool.not_false, Bool.not_true]
      rw [wrN (x := (k : Int) + 1) (k + 1) (by omega) (by omega)]
      refine run_to (row 2 1 v9 (k + 1) (numC (O.take (k + 1))) :: mgrA b2 t2 m :: mgrA b t m :: []) (fun w hw => ?_) ?_
      · rw [List.take_add_one, hq, Option.toList_some]
        simp only [numC, List.flatMap_append, List.flatMap_cons, List.flatMap_nil, List.append_nil]
        exact hw
      exact fun w hw => ⟨(k + 1, v9), by simp only; omega, ⟨by simp only; omega, by simp only; omega⟩, rfl, hw⟩
    · rw [dec_f (show ¬ (k : Int) < (a.other.length : Int) by omega)]
      try simp only [pureE, pureT, Nat.zero_add, Nat.reduceAdd, Bool.not_false, Bool.not_true]
      have hq : O[k]? = some x := (hother k x hx h9).trans (by rw [HO]; simp [hko])
      unfold S3_k3
      refine run_buildSlice (numV x) un26 ty2 (by omega) (by omega) (by kernel_rfl) fun b20 => ?_
      refine run_append 1 un26 ty2 rfl rfl (Rd.pt (i := 0) rfl 1 (by simp [numV])) (numV_one _) (by unfold maxLen; omega) (by omega) (by omega) fun v9 _ => ?_
      refine run_drop ?_
      try simp only [pureE, pureT, Nat.zero_add, Nat.reduceAdd, Bool.not_false, Bool.not_true]
      rw [wrN (x := (k : Int) + 1) (k + 1) (by omega) (by omega)]
      refine run_to (row 2 1 v9 (k + 1) (numC (O.take (k + 1))) :: mgrA b2 t2 m :: mgrA b t m :: []) (fun w hw => ?_) ?_
      · rw [List.take_add_one, hq, Option.toList_some]
        simp only [numC, List.flatMap_append, List.flatMap_cons, List.flatMap_nil, List.append_nil]
        exact hw
      exact fun w hw => ⟨(k + 1, v9), by simp only; omega, ⟨by simp only; omega, by simp only; omega⟩, rfl, hw⟩
  rw [dec_t (show (k : Int) < (bs.length : Int) by omega)]
  try simp only [pureE, pureT, Nat.zero_add, Nat.reduceAdd, Bool.not_false, Bool.not_true]
  obtain ⟨bb, hbb⟩ : ∃ bb, bs[k]? = some bb := ⟨_, List.getElem?_eq_getElem h12⟩
  refine run_rd_idx (l0 := []) un25 ty34 pV_len (by omega) hpr.top f hbs fun b23 o23 hc23 => ?_
  refine run_ld sc34 (hc23.mono fun w hw => hw.nil) ?_
  refine run_rd_idx (l0 := []) un34 ty4 bV_len (by omega) hbr k hbb fun b24 o24 hc24 => ?_
  refine run_ld sc4 (hc24.mono fun w hw => hw.nil) ?_
  have HO : M.openI (pubOf ps) a.fn k = bb := by rw [hoI, hoM, hbb]; rfl
  cases bb
  · try simp only [pureE, pureT, Nat.zero_add, Nat.reduceAdd, Bool.not_false, Bool.not_true]
    refine run_rd_idx (l0 := []) un27 ty33 askC_len (by omega) hl.top i ha fun b15 o15 hc15 => ?_
    try simp only [pureE, pureT, Nat.zero_add, Nat.reduceAdd, Bool.not_false, Bool.not_true]
    refine run_ld sc26 ((hc15.fld (k := 2) hov).mono fun w hw => hw.nil) ?_
    try simp only [pureE, pureT, Nat.zero_add, Nat.reduceAdd, Bool.not_false, Bool.not_true]
    by_cases hko : k < a.other.length
    · rw [dec_t (show (k : Int) < (a.other.length : Int) by omega)]
      try simp only [pureE, pureT, Nat.zero_add, Nat.reduceAdd, Bool.not_false, Bool.not_true]
      obtain ⟨y, hy⟩ : ∃ y, a.other[k]? = some y := ⟨_, List.getElem?_eq_getElem hko⟩
      refine run_rd_idx (l0 := []) un27 ty33 askC_len (by omega) hl.top i ha fun b16 o16 hc16 => ?_
      try simp only [pureE, pureT, Nat.zero_add, Nat.reduceAdd, Bool.not_false, Bool.not_true]
      refine run_ld sc26 ((hc16.fld (k := 2) hov).mono fun w hw => hw.nil) ?_
      refine run_rd_idx (l0 := []) un26 ty2 numV_len (by omega) hro' k hy fun b17 o17 hc17 => ?_
      refine run_ld sc2 (hc17.mono fun w hw => hw.nil) ?_
      have hq : O[k]? = some y := (hother k x hx h9).trans (by rw [HO, hy]; simp [hko])
      unfold S3_k3
      refine run_buildSlice (numV y) un26 ty2 (by omega) (by omega) (by kernel_rfl) fun b20 => ?_
      refine run_append 1 un26 ty2 rfl rfl (Rd.pt (i := 0) rfl 1 (by simp [numV])) (numV_one _) (by unfold maxLen; omega) (by omega) (by omega) fun v9 _ => ?_
      refine run_drop ?_
      try simp only [pureE, pureT, Nat.zero_add, Nat.reduceAdd, Bool.not_false, Bool.not_true]
      rw [wrN (x := (k : Int) + 1) (k + 1) (by omega) (by omega)]
      refine run_to (row 2 1 v9 (k + 1) (numC (O.take (k + 1))) :: mgrA b2 t2 m :: mgrA b t m :: []) (fun w hw => ?_) ?_
      · rw [List.take_add_one, hq, Option.toList_some]
        simp only [numC, List.flatMap_append, List.flatMap_cons, List.flatMap_nil, List.append_nil]
        exact hw
      exact fun w hw => ⟨(k + 1, v9), by simp only; omega, ⟨by simp only; omega, by simp only; omega⟩, rfl, hw⟩
    · rw [dec_f (show ¬ (k : Int) < (a.other.length : Int) by omega)]
      try simp only [pureE, pureT, Nat.zero_add, Nat.reduceAdd, Bool.not_false, Bool.not_true]
      have hq : O[k]? = some x := (hother k x hx h9).trans (by rw [HO]; simp [hko])
      unfold S3_k3
      refine run_buildSlice (numV x) un26 ty2 (by omega) (by omega) (by kernel_rfl) fun b20 => ?_
      refine run_append 1 un26 ty2 rfl rfl (Rd.pt (i := 0) rfl 1 (by simp [numV])) (numV_one _) (by unfold maxLen; omega) (by omega) (by omega) fun v9 _ => ?_
      refine run_drop ?_
      try simp only [pureE, pureT, Nat.zero_add, Nat.reduceAdd, Bool.not_false, Bool.not_true]
      rw [wrN (x := (k : Int) + 1) (k + 1) (by omega) (by omega)]
      refine run_to (row 2 1 v9 (k + 1) (numC (O.take (k + 1))) :: mgrA b2 t2 m :: mgrA b t m :: []) (fun w hw => ?_) ?_
      · rw [List.take_add_one, hq, Option.toList_some]
        simp only [numC, List.flatMap_append, List.flatMap_cons, List.flatMap_nil, List.append_nil]
        exact hw
      exact fun w hw => ⟨(k + 1, v9), by simp only; omega, ⟨by simp only; omega, by simp only; omega⟩, rfl, hw⟩
  · try simp only [pureE, pureT, Nat.zero_add, Nat.reduceAdd, Bool.not_false, Bool.not_true]
    have hq : O[k]? = some x := (hother k x hx h9).trans (by rw [HO]; simp)
    unfold S3_k3
    refine run_buildSlice (numV x) un26 ty2 (by omega) (by omega) (by kernel_rfl) fun b20 => ?_
    refine run_append 1 un26 ty2 rfl rfl (Rd.pt (i := 0) rfl 1 (by simp [numV])) (numV_one _) (by unfold maxLen; omega) (by omega) (by omega) fun v9 _ => ?_
    refine run_drop ?_
    try simp only [pureE, pureT, Nat.zero_add, Nat.reduceAdd, Bool.not_false, Bool.not_true]
    rw [wrN (x := (k : Int) + 1) (k + 1) (by omega) (by omega)]
    refine run_to (row 2 1 v9 (k + 1) (numC (O.take (k + 1))) :: mgrA b2 t2 m :: mgrA b t m :: []) (fun w hw => ?_) ?_
    · rw [List.take_add_one, hq, Option.toList_some]
      simp only [numC, List.flatMap_append, List.flatMap_cons, List.flatMap_nil, List.append_nil]
      exact hw
    exact fun w hw => ⟨(k + 1, v9), by simp only; omega, ⟨by simp only; omega, by simp only; omega⟩, rfl, hw⟩
end
end Go.Proofs.YtkonigmefmgepaaDoor
