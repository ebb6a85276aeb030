/- Contracts: a manager that is made, whole (own work). -/
import Derived.Test.YtkonigmefmgepaaGreatDoorW20
namespace Go.Proofs.YtkonigmefmgepaaGreatDoor
open Go.RowKit
set_option linter.unusedVariables false
set_option linter.unusedSimpArgs false

section
variable {W0 : World} {l : List As} {K : Value → C} {pn : Pn}
variable {b cb chb gb b4 : Nat} {k : Int} {cv pv kv : Value} {gs : List FG} {ps : List PG} {ks : List Int}

theorem new1_c (hc : CodeRd W0 l cv gs) (hpr : PubRd W0 l pv ps) (h1 : gs.length ≤ 4294967296) (h2 : ∀ e ∈ gs, e.1.l.length ≤ 4294967296) (hk : Rd W0 l 1 kv ks.length (numC ks)) (h3 : ps.length * 24 ≤ 140737488355328) (h4 : ∀ e ∈ ps, e.2.length ≤ 140737488355328) (h5 : ks.length ≤ 4294967296) (hcap : ∃ c : Int, k = min (max c 1) 32)
    (h : ∀ t c, k = min (max c 1) 32 → Run W0 (mgrA b t (M.newM (fnsOf gs) (pubOf ps) c ks) :: l) (K (Ptr b))) :
    Run W0 (newA b cb chb ks.length gb k [] [] [] :: pt b4 24 [cv] :: l) (LoopS [pv, kv, Ptr b4, Ptr b, cv, IV gs.length, IV 0] [1, 3, 4, 9, 28, 29, 30] fun nx e => S6_l1 nx K pn e) := by
  obtain ⟨ac, cc, rfl, _, _, _⟩ := hc.top.form
  obtain ⟨ap, cp, rfl, _, _, _⟩ := hpr.top.form
  refine run_loop (Inv := fun s : Nat => s ≤ gs.length) (J := fun s => [.slice ap ps.length cp, kv, Ptr b4, Ptr b, .slice ac gs.length cc, IV gs.length, IV s])
    (H := fun s => newA b cb chb ks.length gb k (fnsOf (gs.take s)) [] [] :: pt b4 24 [.slice ac gs.length cc] :: l) (μ := fun s => gs.length - s) 0 (by simp) rfl (fun w hw => hw) ?_
  intro s e hs he
  simp only [List.map_cons, List.map_nil, List.cons.injEq, and_true] at he
  obtain ⟨e1, e3, e4, e9, e28, e29, e30⟩ := he
  unfold S6_l1
  simp only [e1, e3, e4, e9, e28, e29, e30]
  try simp only [pureE, pureT, Nat.zero_add, Nat.reduceAdd, Bool.not_false, Bool.not_true]
  by_cases hlt : s < gs.length
  · rw [dec_t (show (s : Int) < (gs.length : Int) by omega)]
    try simp only [pureE, pureT, Nat.zero_add, Nat.reduceAdd, Bool.not_false, Bool.not_true]
    obtain ⟨⟨gf, gv⟩, hg⟩ : ∃ g, gs[s]? = some g := ⟨_, List.getElem?_eq_getElem hlt⟩
    have hgm := List.mem_of_getElem? hg
    have hgr := hc.fns _ hgm
    have hgl := h2 _ hgm
    simp only at hgr hgl
    obtain ⟨a3, c3, rfl, _, _, _⟩ := hgr.form
    refine run_rd_idx (l0 := l) un22 ty59 fnG_len (by omega) hc.top s hg fun b5 o5 hc5 => ?_
    refine run_lda ag59 ty59 rfl (hc5.mono fun w hw => hw.tail.tail) ?_
    refine run_alloc ty59 fun b6 => ?_
    refine run_st ty59 (i := 0) rfl rfl (by simpa [Value.cells] using fnG_one (gf, .slice a3 gf.l.length c3) rfl) (by simp [Value.cells]) ?_
    refine run_to (pt b6 59 (fnG (gf, .slice a3 gf.l.length c3)) :: newA b cb chb ks.length gb k (fnsOf (gs.take s)) [] [] :: pt b4 24 [.slice ac gs.length cc] :: l) (fun w hw => hw) ?_
    try simp only [pureE, pureT, Nat.zero_add, Nat.reduceAdd, Bool.not_false, Bool.not_true]
    refine run_ld sc36 (cl1 (i := 0) (cs := fnG (gf, .slice a3 gf.l.length c3)) rfl (v := .slice a3 gf.l.length c3) rfl) ?_
    refine cloneIns_c (hgr.mono fun w hw => hw.tail.tail.tail) (flat_one insV_one _) hgl fun v' _ => ?_
    refine run_row_rd 0 rfl fun hr6 => ?_
    obtain ⟨a6, c6, rfl, _, _, _⟩ := hr6.form
    try simp only [pureE, pureT, Nat.zero_add, Nat.reduceAdd, Bool.not_false, Bool.not_true]
    refine run_st ty36 (i := 1) rfl rfl (by simp [Value.cells, Value.oneCell']) (by simp [Value.cells, fnG, fnV]) ?_
    refine run_to (row 69 3 (.slice a6 gf.l.length c6) gf.l.length (insC gf.l) :: pt b6 59 (fnV gf (.slice a6 gf.l.length c6)) :: newA b cb chb ks.length gb k (fnsOf (gs.take s)) [] [] :: pt b4 24 [.slice ac gs.length cc] :: l) (fun w hw => hw) ?_
    refine run_draw [pt b6 59 (fnV gf (.slice a6 gf.l.length c6))] (fun w hw => hw.at (i := 1) rfl) ?_
    try simp only [pureE, pureT, Nat.zero_add, Nat.reduceAdd, Bool.not_false, Bool.not_true]
    refine take_lda ag59 ty59 (xs := fnV gf (.slice a6 gf.l.length c6)) rfl (cl_all (i := 0) rfl) ?_
    refine run_open 2 rfl fun x => ?_
    refine run_to (newPs b cb chb ks.length gb k (fnsOf (gs.take s)) [] [] x ++ (row 69 3 (.slice a6 gf.l.length c6) gf.l.length (insC gf.l) :: pt b6 59 (fnV gf (.slice a6 gf.l.length c6)) :: pt b4 24 [.slice ac gs.length cc] :: l)) (fun w hw => hw) ?_
    refine run_pur 8 rfl fun hp => ?_
    have hxl : x.1.2.length = s := by
      have := congrArg List.length hp.1
      unfold fnsOf at this
      simp only [List.length_map, List.length_take] at this
      omega
    have hone : ∀ u ∈ fnV gf (.slice a6 gf.l.length c6), u.oneCell' = true := fnG_one (gf, .slice a6 gf.l.length c6) rfl
    have next : ∀ a7 c7, Run W0 (pt b 66 [Ptr cb, .slice a7 (x.1.2.length + 1) c7, x.2.1.1, .chan (some chb), .pointer none, .map (some gb), .slice none 0 0] :: cacheA cb ⟨k, [], []⟩ :: row 59 5 (.slice a7 (x.1.2.length + 1) c7) (x.1.2.length + 1) (x.1.2.flatMap fnG ++ fnV gf (.slice a6 gf.l.length c6)) :: big (x.1.2.map fRow) ::
        row 56 1 x.2.1.1 x.2.1.2.length (x.2.1.2.flatMap pV) :: big (x.2.1.2.map pRow) :: ch chb ks.length ([].map IV) x.2.2.1 x.2.2.2 :: mp gb [] 0 :: pur (x.1.2.map (·.1) = fnsOf (gs.take s) ∧ x.2.1.2.map (·.2) = []) :: row 69 3 (.slice a6 gf.l.length c6) gf.l.length (insC gf.l) :: pt b6 59 (fnV gf (.slice a6 gf.l.length c6)) :: pt b4 24 [.slice ac gs.length cc] :: l)
        (fun w' => ∃ s', gs.length - s' < gs.length - s ∧ s' ≤ gs.length ∧ [.slice ap ps.length cp, kv, Ptr b4, Ptr b, .slice ac gs.length cc, IV gs.length, IV (s' : Int)] = [.slice ap ps.length cp, kv, Ptr b4, Ptr b, .slice ac gs.length cc, IV gs.length, IV ((s + 1 : Nat) : Int)] ∧ St W0 (newA b cb chb ks.length gb k (fnsOf (gs.take s')) [] [] :: pt b4 24 [.slice ac gs.length cc] :: l) w') := by
      intro a7 c7
      refine run_setPur 8 ((x.1.2 ++ [((gf, Value.slice a6 gf.l.length c6) : FG)]).map (fun e : FG => e.1) = fnsOf (gs.take (s + 1)) ∧ x.2.1.2.map (fun e : PG => e.2) = []) rfl ⟨?_, hp.2⟩ ?_
      · unfold fnsOf at hp ⊢
        rw [List.map_append, hp.1, List.take_add_one, hg, List.map_append]; rfl
      refine run_erase 10 ?_
      refine run_to (newPs b cb chb ks.length gb k (fnsOf (gs.take (s + 1))) [] [] ((.slice a7 (x.1.2.length + 1) c7, x.1.2 ++ [(gf, .slice a6 gf.l.length c6)]), x.2) ++ (pt b4 24 [.slice ac gs.length cc] :: l)) (fun w hw => ?_) (run_pack _ ?_)
      · have h8 := St.mk9a (St.push (St.toPush1 hw))
        unfold newPs
        rw [List.map_append (f := fRow)]
        simp only [List.length_append, List.length_singleton, List.flatMap_append, List.flatMap_cons, List.flatMap_nil, List.append_nil]
        exact h8
      exact fun w hw => ⟨s + 1, by omega, by omega, rfl, hw⟩
    refine run_two ?_ ?_
    · refine run_ld sc22 (cl1 (i := 0) rfl (v := x.1.1) rfl) (run_and (fun w hw => hw.at (i := 10) rfl) ?_)
      refine run_buildSlice (fnV gf (.slice a6 gf.l.length c6)) un22 ty59 (by omega) (by omega) (by kernel_rfl) fun b7 => run_and (fun w hw => hw.at (i := 11) rfl) ?_
      refine run_append 3 un22 ty59 rfl rfl (Rd.pt (i := 0) rfl 5 (by simp [fnV])) hone (by unfold maxLen; omega) (by omega) (by omega) fun v7 _ => run_and (fun w hw => hw.at (i := 11) rfl) ?_
      refine run_drop ?_
      try simp only [pureE, pureT, Nat.zero_add, Nat.reduceAdd, Bool.not_false, Bool.not_true]
      refine run_row_rd 2 rfl fun hr7 => ?_
      obtain ⟨a7, c7, rfl, _, _, _⟩ := hr7.form
      refine run_st ty22 (i := 0) rfl rfl (by simp [Value.cells, Value.oneCell']) (by simp) (run_and (fun w hw => hw.at (i := 10) rfl) ?_)
      try simp only [pureE, pureT, Nat.zero_add, Nat.reduceAdd, Bool.not_false, Bool.not_true]
      rw [wrN (x := (s : Int) + 1) (s + 1) (by omega) (by omega)]
      exact next a7 c7
    · refine run_buildSlice (fnV gf (.slice a6 gf.l.length c6)) un22 ty59 (by omega) (by omega) (by kernel_rfl) fun b7 => run_and (fun w hw => hw.at (i := 11) rfl) ?_
      refine run_ld sc22 (cl1 (i := 1) rfl (v := x.1.1) rfl) (run_and (fun w hw => hw.at (i := 11) rfl) ?_)
      refine run_append 3 un22 ty59 rfl rfl (Rd.pt (i := 0) rfl 5 (by simp [fnV])) hone (by unfold maxLen; omega) (by omega) (by omega) fun v7 _ => run_and (fun w hw => hw.at (i := 11) rfl) ?_
      refine run_drop ?_
      try simp only [pureE, pureT, Nat.zero_add, Nat.reduceAdd, Bool.not_false, Bool.not_true]
      refine run_row_rd 2 rfl fun hr7 => ?_
      obtain ⟨a7, c7, rfl, _, _, _⟩ := hr7.form
      refine run_st ty22 (i := 0) rfl rfl (by simp [Value.cells, Value.oneCell']) (by simp) (run_and (fun w hw => hw.at (i := 10) rfl) ?_)
      try simp only [pureE, pureT, Nat.zero_add, Nat.reduceAdd, Bool.not_false, Bool.not_true]
      rw [wrN (x := (s : Int) + 1) (s + 1) (by omega) (by omega)]
      exact next a7 c7
  · rw [dec_f (show ¬ (s : Int) < (gs.length : Int) by omega)]
    try simp only [pureE, pureT, Nat.zero_add, Nat.reduceAdd, Bool.not_false, Bool.not_true]
    rw [List.take_of_length_le (by omega)]
    exact new2_c hc hpr h1 hk h3 h4 h5 hcap h

theorem newStart {w : World} (hw : St W0 (pt b 66 [Ptr cb, .slice none 0 0, .slice none 0 0, .chan (some chb), .pointer none, .map (some gb), .slice none 0 0] :: cacheA cb ⟨k, [], []⟩ :: ch chb ks.length [] 0 0 :: mp gb [] 0 :: pt b4 24 [cv] :: l) w) : St W0 (newA b cb chb ks.length gb k [] [] [] :: pt b4 24 [cv] :: l) w := by
  have g : ∀ {L : List As} (A : As) (ha : ∀ w, A.f (fun _ => False) w), St W0 L w → St W0 (A :: L) w := fun A ha h => h.new ⟨rfl, rfl, rfl, Nat.le_refl _, fun _ _ _ => rfl⟩ (fun _ => False) (fun _ hx => hx.elim) (ha w)
  have h1 := g (row 59 5 (.slice none 0 0) 0 []) (fun w => ⟨by simp, .inl ⟨rfl, rfl, fun _ hx => hx⟩⟩) hw
  have h2 := g (big []) (fun w => trivial) h1
  have h3 := g (row 56 1 (.slice none 0 0) 0 []) (fun w => ⟨by simp, .inl ⟨rfl, rfl, fun _ hx => hx⟩⟩) h2
  have h4 := g (big []) (fun w => trivial) h3
  have h5 := g (pur ((([] : List FG).map (fun e : FG => e.1) = ([] : List M.Fn)) ∧ ([] : List PG).map (fun e : PG => e.2) = ([] : List (List Bool)))) (fun w => ⟨rfl, rfl⟩) h4
  have h6 : St W0 (newPs b cb chb ks.length gb k [] [] [] ((.slice none 0 0, []), (.slice none 0 0, []), 0, 0) ++ (pt b4 24 [cv] :: l)) w := by
    have k1 : St W0 (mp gb [] 0 :: pur ((([] : List FG).map (fun e : FG => e.1) = ([] : List M.Fn)) ∧ ([] : List PG).map (fun e : PG => e.2) = ([] : List (List Bool))) :: big [] :: row 56 1 (.slice none 0 0) 0 [] :: big [] :: row 59 5 (.slice none 0 0) 0 [] :: pt b 66 [Ptr cb, .slice none 0 0, .slice none 0 0, .chan (some chb), .pointer none, .map (some gb), .slice none 0 0] :: cacheA cb ⟨k, [], []⟩ :: ch chb ks.length [] 0 0 :: pt b4 24 [cv] :: l) w := h5.front 8
    have k2 : St W0 (ch chb ks.length [] 0 0 :: mp gb [] 0 :: pur ((([] : List FG).map (fun e : FG => e.1) = ([] : List M.Fn)) ∧ ([] : List PG).map (fun e : PG => e.2) = ([] : List (List Bool))) :: big [] :: row 56 1 (.slice none 0 0) 0 [] :: big [] :: row 59 5 (.slice none 0 0) 0 [] :: pt b 66 [Ptr cb, .slice none 0 0, .slice none 0 0, .chan (some chb), .pointer none, .map (some gb), .slice none 0 0] :: cacheA cb ⟨k, [], []⟩ :: pt b4 24 [cv] :: l) w := k1.front 8
    have k3 : St W0 (big [] :: ch chb ks.length [] 0 0 :: mp gb [] 0 :: pur ((([] : List FG).map (fun e : FG => e.1) = ([] : List M.Fn)) ∧ ([] : List PG).map (fun e : PG => e.2) = ([] : List (List Bool))) :: row 56 1 (.slice none 0 0) 0 [] :: big [] :: row 59 5 (.slice none 0 0) 0 [] :: pt b 66 [Ptr cb, .slice none 0 0, .slice none 0 0, .chan (some chb), .pointer none, .map (some gb), .slice none 0 0] :: cacheA cb ⟨k, [], []⟩ :: pt b4 24 [cv] :: l) w := k2.front 3
    have k4 : St W0 (row 56 1 (.slice none 0 0) 0 [] :: big [] :: ch chb ks.length [] 0 0 :: mp gb [] 0 :: pur ((([] : List FG).map (fun e : FG => e.1) = ([] : List M.Fn)) ∧ ([] : List PG).map (fun e : PG => e.2) = ([] : List (List Bool))) :: big [] :: row 59 5 (.slice none 0 0) 0 [] :: pt b 66 [Ptr cb, .slice none 0 0, .slice none 0 0, .chan (some chb), .pointer none, .map (some gb), .slice none 0 0] :: cacheA cb ⟨k, [], []⟩ :: pt b4 24 [cv] :: l) w := k3.front 4
    have k5 : St W0 (big [] :: row 56 1 (.slice none 0 0) 0 [] :: big [] :: ch chb ks.length [] 0 0 :: mp gb [] 0 :: pur ((([] : List FG).map (fun e : FG => e.1) = ([] : List M.Fn)) ∧ ([] : List PG).map (fun e : PG => e.2) = ([] : List (List Bool))) :: row 59 5 (.slice none 0 0) 0 [] :: pt b 66 [Ptr cb, .slice none 0 0, .slice none 0 0, .chan (some chb), .pointer none, .map (some gb), .slice none 0 0] :: cacheA cb ⟨k, [], []⟩ :: pt b4 24 [cv] :: l) w := k4.front 5
    have k6 : St W0 (row 59 5 (.slice none 0 0) 0 [] :: big [] :: row 56 1 (.slice none 0 0) 0 [] :: big [] :: ch chb ks.length [] 0 0 :: mp gb [] 0 :: pur ((([] : List FG).map (fun e : FG => e.1) = ([] : List M.Fn)) ∧ ([] : List PG).map (fun e : PG => e.2) = ([] : List (List Bool))) :: pt b 66 [Ptr cb, .slice none 0 0, .slice none 0 0, .chan (some chb), .pointer none, .map (some gb), .slice none 0 0] :: cacheA cb ⟨k, [], []⟩ :: pt b4 24 [cv] :: l) w := k5.front 6
    have k7 : St W0 (cacheA cb ⟨k, [], []⟩ :: row 59 5 (.slice none 0 0) 0 [] :: big [] :: row 56 1 (.slice none 0 0) 0 [] :: big [] :: ch chb ks.length [] 0 0 :: mp gb [] 0 :: pur ((([] : List FG).map (fun e : FG => e.1) = ([] : List M.Fn)) ∧ ([] : List PG).map (fun e : PG => e.2) = ([] : List (List Bool))) :: pt b 66 [Ptr cb, .slice none 0 0, .slice none 0 0, .chan (some chb), .pointer none, .map (some gb), .slice none 0 0] :: pt b4 24 [cv] :: l) w := k6.front 8
    exact k7.front 8
  exact h6.pack fun F hs => ⟨_, hs⟩

theorem ordCACHMK {PT CA CH MK : As} {w : World} (h0 : St W0 (PT :: MK :: CH :: CA :: l) w) : St W0 (PT :: CA :: CH :: MK :: l) w := by
  have h1 : St W0 (MK :: PT :: CH :: CA :: l) w := h0.front 1
  have h2 : St W0 (CH :: MK :: PT :: CA :: l) w := h1.front 2
  have h3 : St W0 (CA :: CH :: MK :: PT :: l) w := h2.front 3
  have h4 : St W0 (PT :: CA :: CH :: MK :: l) w := h3.front 3
  exact h4
theorem ordCAMKCH {PT CA CH MK : As} {w : World} (h0 : St W0 (PT :: CH :: MK :: CA :: l) w) : St W0 (PT :: CA :: CH :: MK :: l) w := by
  have h1 : St W0 (MK :: PT :: CH :: CA :: l) w := h0.front 2
  have h2 : St W0 (CH :: MK :: PT :: CA :: l) w := h1.front 2
  have h3 : St W0 (CA :: CH :: MK :: PT :: l) w := h2.front 3
  have h4 : St W0 (PT :: CA :: CH :: MK :: l) w := h3.front 3
  exact h4
theorem ordCHCAMK {PT CA CH MK : As} {w : World} (h0 : St W0 (PT :: MK :: CA :: CH :: l) w) : St W0 (PT :: CA :: CH :: MK :: l) w := by
  have h1 : St W0 (MK :: PT :: CA :: CH :: l) w := h0.front 1
  have h2 : St W0 (CH :: MK :: PT :: CA :: l) w := h1.front 3
  have h3 : St W0 (CA :: CH :: MK :: PT :: l) w := h2.front 3
  have h4 : St W0 (PT :: CA :: CH :: MK :: l) w := h3.front 3
  exact h4
theorem ordCHMKCA {PT CA CH MK : As} {w : World} (h0 : St W0 (PT :: CA :: MK :: CH :: l) w) : St W0 (PT :: CA :: CH :: MK :: l) w := by
  have h1 : St W0 (MK :: PT :: CA :: CH :: l) w := h0.front 2
  have h2 : St W0 (CH :: MK :: PT :: CA :: l) w := h1.front 3
  have h3 : St W0 (CA :: CH :: MK :: PT :: l) w := h2.front 3
  have h4 : St W0 (PT :: CA :: CH :: MK :: l) w := h3.front 3
  exact h4
theorem ordMKCACH {PT CA CH MK : As} {w : World} (h0 : St W0 (PT :: CH :: CA :: MK :: l) w) : St W0 (PT :: CA :: CH :: MK :: l) w := by
  have h1 : St W0 (MK :: PT :: CH :: CA :: l) w := h0.front 3
  have h2 : St W0 (CH :: MK :: PT :: CA :: l) w := h1.front 2
  have h3 : St W0 (CA :: CH :: MK :: PT :: l) w := h2.front 3
  have h4 : St W0 (PT :: CA :: CH :: MK :: l) w := h3.front 3
  exact h4
theorem ordMKCHCA {PT CA CH MK : As} {w : World} (h0 : St W0 (PT :: CA :: CH :: MK :: l) w) : St W0 (PT :: CA :: CH :: MK :: l) w := by
  have h1 : St W0 (MK :: PT :: CA :: CH :: l) w := h0.front 3
  have h2 : St W0 (CH :: MK :: PT :: CA :: l) w := h1.front 3
  have h3 : St W0 (CA :: CH :: MK :: PT :: l) w := h2.front 3
  have h4 : St W0 (PT :: CA :: CH :: MK :: l) w := h3.front 3
  exact h4
theorem run_three {A B C' : C} (h1 : Run W0 l A) (h2 : Run W0 l B) (h3 : Run W0 l C') : Run W0 l (fun w => A w ∧ B w ∧ C' w) := fun w hw => ⟨h1 w hw, h2 w hw, h3 w hw⟩
theorem new_c {cap : Int} (hc : CodeRd W0 l cv gs) (hpr : PubRd W0 l pv ps) (h1 : gs.length ≤ 4294967296) (h2 : ∀ e ∈ gs, e.1.l.length ≤ 4294967296) (hk : Rd W0 l 1 kv ks.length (numC ks)) (h3 : ps.length * 24 ≤ 140737488355328) (h4 : ∀ e ∈ ps, e.2.length ≤ 140737488355328) (h5 : ks.length ≤ 4294967296)
    (h : ∀ b t, Run W0 (mgrA b t (M.newM (fnsOf gs) (pubOf ps) cap ks) :: l) (K (Ptr b))) : Run W0 l (callS P 6 #[.agg #[cv], pv, IV cap, kv] K pn) := by
  obtain ⟨ac, cc, rfl, _, _, _⟩ := hc.top.form
  obtain ⟨ak, ck, rfl, _, _, _⟩ := hk.form
  refine r6 ?_
  unfold S6
  refine run_box fun b4 => ?_
  refine run_draw [] (fun w hw => hw.nil) ?_
  refine run_tk (IV ks.length) (fun w => pv_len un26) ?_
  have h' : ∀ b (t : MS) (c : Int), min (max cap 1) 32 = min (max c 1) 32 → Run W0 (mgrA b t (M.newM (fnsOf gs) (pubOf ps) c ks) :: l) (K (Ptr b)) := by
    intro b t c hcc
    have e : M.newM (fnsOf gs) (pubOf ps) c ks = M.newM (fnsOf gs) (pubOf ps) cap ks := by
      unfold M.newM; rw [hcc]
    rw [e]; exact h b t
  have fin : ∀ (b cb chb gb : Nat) (L : List As), (∀ w, St W0 L w → St W0 (pt b 66 [Ptr cb, .slice none 0 0, .slice none 0 0, .chan (some chb), .pointer none, .map (some gb), .slice none 0 0] :: cacheA cb ⟨min (max cap 1) 32, [], []⟩ :: ch chb ks.length [] 0 0 :: mp gb [] 0 :: pt b4 24 [.slice ac gs.length cc] :: l) w) →
      Run W0 L (LoopS [pv, .slice ak ks.length ck, Ptr b4, Ptr b, .slice ac gs.length cc, IV gs.length, IV 0] [1, 3, 4, 9, 28, 29, 30] fun nx e => S6_l1 nx K pn e) := fun b cb chb gb L hL =>
    Run.of (new1_c hc hpr h1 h2 hk h3 h4 h5 ⟨cap, rfl⟩ (h' b)) fun w hw => newStart (hL w hw)
  refine run_three ?_ ?_ ?_
  · refine cacheNew_c fun cb => run_and (fun w hw => hw.nil) ?_
    refine run_two ?_ ?_
    · refine run_makeChan un62 ty2 (n := ks.length) (by omega) (by omega) fun chb => run_and (fun w hw => hw.nil) ?_
      refine run_makeMap fun gb => run_and (fun w hw => hw.nil) ?_
      refine run_px (.agg #[Ptr cb, .slice none 0 0, .slice none 0 0, .chan (some chb), .pointer none, .map (some gb), .slice none 0 0]) (fun w => by kernel_rfl) ?_
      refine run_box fun b => run_and (fun w hw => hw.nil) ?_
      try simp only [pureE, pureT, Nat.zero_add, Nat.reduceAdd, Bool.not_false, Bool.not_true]
      refine run_ld sc22 (cl1 (i := 4) rfl rfl) ?_
      try simp only [pureE, pureT, Nat.zero_add, Nat.reduceAdd, Bool.not_false, Bool.not_true]
      exact fin b cb chb gb _ fun w hw => ordCACHMK hw
    · refine run_makeMap fun gb => run_and (fun w hw => hw.nil) ?_
      refine run_makeChan un62 ty2 (n := ks.length) (by omega) (by omega) fun chb => run_and (fun w hw => hw.nil) ?_
      refine run_px (.agg #[Ptr cb, .slice none 0 0, .slice none 0 0, .chan (some chb), .pointer none, .map (some gb), .slice none 0 0]) (fun w => by kernel_rfl) ?_
      refine run_box fun b => run_and (fun w hw => hw.nil) ?_
      try simp only [pureE, pureT, Nat.zero_add, Nat.reduceAdd, Bool.not_false, Bool.not_true]
      refine run_ld sc22 (cl1 (i := 4) rfl rfl) ?_
      try simp only [pureE, pureT, Nat.zero_add, Nat.reduceAdd, Bool.not_false, Bool.not_true]
      exact fin b cb chb gb _ fun w hw => ordCAMKCH hw
  · refine run_makeChan un62 ty2 (n := ks.length) (by omega) (by omega) fun chb => run_and (fun w hw => hw.nil) ?_
    refine run_two ?_ ?_
    · refine cacheNew_c fun cb => run_and (fun w hw => hw.nil) ?_
      refine run_makeMap fun gb => run_and (fun w hw => hw.nil) ?_
      refine run_px (.agg #[Ptr cb, .slice none 0 0, .slice none 0 0, .chan (some chb), .pointer none, .map (some gb), .slice none 0 0]) (fun w => by kernel_rfl) ?_
      refine run_box fun b => run_and (fun w hw => hw.nil) ?_
      try simp only [pureE, pureT, Nat.zero_add, Nat.reduceAdd, Bool.not_false, Bool.not_true]
      refine run_ld sc22 (cl1 (i := 4) rfl rfl) ?_
      try simp only [pureE, pureT, Nat.zero_add, Nat.reduceAdd, Bool.not_false, Bool.not_true]
      exact fin b cb chb gb _ fun w hw => ordCHCAMK hw
    · refine run_makeMap fun gb => run_and (fun w hw => hw.nil) ?_
      refine cacheNew_c fun cb => run_and (fun w hw => hw.nil) ?_
      refine run_px (.agg #[Ptr cb, .slice none 0 0, .slice none 0 0, .chan (some chb), .pointer none, .map (some gb), .slice none 0 0]) (fun w => by kernel_rfl) ?_
      refine run_box fun b => run_and (fun w hw => hw.nil) ?_
      try simp only [pureE, pureT, Nat.zero_add, Nat.reduceAdd, Bool.not_false, Bool.not_true]
      refine run_ld sc22 (cl1 (i := 4) rfl rfl) ?_
      try simp only [pureE, pureT, Nat.zero_add, Nat.reduceAdd, Bool.not_false, Bool.not_true]
      exact fin b cb chb gb _ fun w hw => ordCHMKCA hw
  · refine run_makeMap fun gb => run_and (fun w hw => hw.nil) ?_
    refine run_two ?_ ?_
    · refine cacheNew_c fun cb => run_and (fun w hw => hw.nil) ?_
      refine run_makeChan un62 ty2 (n := ks.length) (by omega) (by omega) fun chb => run_and (fun w hw => hw.nil) ?_
      refine run_px (.agg #[Ptr cb, .slice none 0 0, .slice none 0 0, .chan (some chb), .pointer none, .map (some gb), .slice none 0 0]) (fun w => by kernel_rfl) ?_
      refine run_box fun b => run_and (fun w hw => hw.nil) ?_
      try simp only [pureE, pureT, Nat.zero_add, Nat.reduceAdd, Bool.not_false, Bool.not_true]
      refine run_ld sc22 (cl1 (i := 4) rfl rfl) ?_
      try simp only [pureE, pureT, Nat.zero_add, Nat.reduceAdd, Bool.not_false, Bool.not_true]
      exact fin b cb chb gb _ fun w hw => ordMKCACH hw
    · refine run_makeChan un62 ty2 (n := ks.length) (by omega) (by omega) fun chb => run_and (fun w hw => hw.nil) ?_
      refine cacheNew_c fun cb => run_and (fun w hw => hw.nil) ?_
      refine run_px (.agg #[Ptr cb, .slice none 0 0, .slice none 0 0, .chan (some chb), .pointer none, .map (some gb), .slice none 0 0]) (fun w => by kernel_rfl) ?_
      refine run_box fun b => run_and (fun w hw => hw.nil) ?_
      try simp only [pureE, pureT, Nat.zero_add, Nat.reduceAdd, Bool.not_false, Bool.not_true]
      refine run_ld sc22 (cl1 (i := 4) rfl rfl) ?_
      try simp only [pureE, pureT, Nat.zero_add, Nat.reduceAdd, Bool.not_false, Bool.not_true]
      exact fin b cb chb gb _ fun w hw => ordMKCHCA hw
end
end Go.Proofs.YtkonigmefmgepaaGreatDoor
