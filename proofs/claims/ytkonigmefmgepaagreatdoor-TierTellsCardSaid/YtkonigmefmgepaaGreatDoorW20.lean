/- Contracts: a manager that is made (own work). -/
import Derived.Test.YtkonigmefmgepaaGreatDoorW19
namespace Go.Proofs.YtkonigmefmgepaaGreatDoor
open Go.RowKit
set_option linter.unusedVariables false
set_option linter.unusedSimpArgs false

section
variable {W0 : World} {l : List As} {K : Value → C} {pn : Pn}
theorem St.mk9b {B2 A0 A1 A2 A3 A4 A6 A7 A8 : As} {w : World} (h0 : St W0 (B2 :: A0 :: A1 :: A2 :: A3 :: A4 :: A6 :: A7 :: A8 :: l) w) : St W0 (A0 :: A1 :: A2 :: A3 :: A4 :: B2 :: A6 :: A7 :: A8 :: l) w := by
  have h1 : St W0 (A4 :: B2 :: A0 :: A1 :: A2 :: A3 :: A6 :: A7 :: A8 :: l) w := h0.front 5
  have h2 : St W0 (A3 :: A4 :: B2 :: A0 :: A1 :: A2 :: A6 :: A7 :: A8 :: l) w := h1.front 5
  have h3 : St W0 (A2 :: A3 :: A4 :: B2 :: A0 :: A1 :: A6 :: A7 :: A8 :: l) w := h2.front 5
  have h4 : St W0 (A1 :: A2 :: A3 :: A4 :: B2 :: A0 :: A6 :: A7 :: A8 :: l) w := h3.front 5
  have h5 : St W0 (A0 :: A1 :: A2 :: A3 :: A4 :: B2 :: A6 :: A7 :: A8 :: l) w := h4.front 5
  exact h5
theorem St.mk9a {B1 A0 A1 A2 A4 A5 A6 A7 A8 : As} {w : World} (h0 : St W0 (B1 :: A0 :: A1 :: A2 :: A4 :: A5 :: A6 :: A7 :: A8 :: l) w) : St W0 (A0 :: A1 :: A2 :: B1 :: A4 :: A5 :: A6 :: A7 :: A8 :: l) w := by
  have h1 : St W0 (A2 :: B1 :: A0 :: A1 :: A4 :: A5 :: A6 :: A7 :: A8 :: l) w := h0.front 3
  have h2 : St W0 (A1 :: A2 :: B1 :: A0 :: A4 :: A5 :: A6 :: A7 :: A8 :: l) w := h1.front 3
  have h3 : St W0 (A0 :: A1 :: A2 :: B1 :: A4 :: A5 :: A6 :: A7 :: A8 :: l) w := h2.front 3
  exact h3
theorem St.toPush2 {R A0 A1 A2 A3 A4 B2 A6 A7 A8 : As} {w : World} (h0 : St W0 (R :: A0 :: A1 :: A2 :: A3 :: A4 :: B2 :: A6 :: A7 :: A8 :: l) w) : St W0 (R :: B2 :: A0 :: A1 :: A2 :: A3 :: A4 :: A6 :: A7 :: A8 :: l) w := by
  have h1 : St W0 (B2 :: R :: A0 :: A1 :: A2 :: A3 :: A4 :: A6 :: A7 :: A8 :: l) w := h0.front 6
  have h2 : St W0 (R :: B2 :: A0 :: A1 :: A2 :: A3 :: A4 :: A6 :: A7 :: A8 :: l) w := h1.front 1
  exact h2
theorem St.toPush1 {A0 A1 A2 B1 A4 A5 A6 A7 A8 R : As} {w : World} (h0 : St W0 (A0 :: A1 :: A2 :: B1 :: A4 :: A5 :: A6 :: A7 :: A8 :: R :: l) w) : St W0 (R :: B1 :: A0 :: A1 :: A2 :: A4 :: A5 :: A6 :: A7 :: A8 :: l) w := by
  have h1 : St W0 (B1 :: A0 :: A1 :: A2 :: A4 :: A5 :: A6 :: A7 :: A8 :: R :: l) w := h0.front 3
  have h2 : St W0 (R :: B1 :: A0 :: A1 :: A2 :: A4 :: A5 :: A6 :: A7 :: A8 :: l) w := h1.front 9
  exact h2
theorem St.at {w : World} (h : St W0 l w) {i : Nat} {A : As} (hi : l[i]? = some A) : St W0 [A] w := by
  have := h.front i
  unfold Proofs.YtkonigmefmgepaaGreatDoor.front at this
  rw [hi] at this
  exact this.head
variable {b cb chb gb b4 : Nat} {k : Int} {cv pv kv : Value} {gs : List FG} {ps : List PG} {ks : List Int}

theorem new2_c (hc : CodeRd W0 l cv gs) (hpr : PubRd W0 l pv ps) (h1 : gs.length ≤ 4294967296) (hk : Rd W0 l 1 kv ks.length (numC ks)) (h3 : ps.length * 24 ≤ 140737488355328) (h4 : ∀ e ∈ ps, e.2.length ≤ 140737488355328) (h5 : ks.length ≤ 4294967296) (hcap : ∃ c : Int, k = min (max c 1) 32)
    (h : ∀ t c, k = min (max c 1) 32 → Run W0 (mgrA b t (M.newM (fnsOf gs) (pubOf ps) c ks) :: l) (K (Ptr b))) :
    Run W0 (newA b cb chb ks.length gb k (fnsOf gs) [] [] :: pt b4 24 [cv] :: l) (LoopS [kv, Ptr b4, Ptr b, pv, IV ps.length, IV 0] [3, 4, 9, 51, 52, 53] fun nx e => S6_l2 nx K pn e) := by
  obtain ⟨ak, ck, rfl, _, _, _⟩ := hk.form
  refine run_loop (Inv := fun s : Nat => s ≤ ps.length) (J := fun s => [.slice ak ks.length ck, Ptr b4, Ptr b, pv, IV ps.length, IV s])
    (H := fun s => newA b cb chb ks.length gb k (fnsOf gs) (pubOf (ps.take s)) [] :: pt b4 24 [cv] :: l) (μ := fun s => ps.length - s) 0 (by simp) rfl (fun w hw => hw) ?_
  intro s e hs he
  simp only [List.map_cons, List.map_nil, List.cons.injEq, and_true] at he
  obtain ⟨e3, e4, e9, e51, e52, e53⟩ := he
  unfold S6_l2
  simp only [e3, e4, e9, e51, e52, e53]
  try simp only [pureE, pureT, Nat.zero_add, Nat.reduceAdd, Bool.not_false, Bool.not_true]
  by_cases hlt : s < ps.length
  · rw [dec_t (show (s : Int) < (ps.length : Int) by omega)]
    try simp only [pureE, pureT, Nat.zero_add, Nat.reduceAdd, Bool.not_false, Bool.not_true]
    obtain ⟨⟨gv, gbs⟩, hg⟩ : ∃ g, ps[s]? = some g := ⟨_, List.getElem?_eq_getElem hlt⟩
    have hgm := List.mem_of_getElem? hg
    have hgr := hpr.fns _ hgm
    have hgl := h4 _ hgm
    simp only at hgr hgl
    refine run_rd_idx (l0 := l) un25 ty56 pV_len (by omega) hpr.top s hg fun b5 o5 hc5 => ?_
    refine run_ld sc56 (hc5.mono fun w hw => hw.tail.tail) ?_
    refine run_draw [] (fun w hw => hw.nil) ?_
    try simp only [pureE, pureT, Nat.zero_add, Nat.reduceAdd, Bool.not_false, Bool.not_true]
    refine run_open 0 rfl fun x => ?_
    refine run_to (newPs b cb chb ks.length gb k (fnsOf gs) (pubOf (ps.take s)) [] x ++ (pt b4 24 [cv] :: l)) (fun w hw => hw) ?_
    refine run_pur 8 rfl fun hp => ?_
    have hxl : x.2.1.2.length = s := by
      have := congrArg List.length hp.2
      unfold pubOf at this
      simp only [List.length_map, List.length_take] at this
      omega
    have next : ∀ (v' v7 : Value) a7 c7 (pnn : Pn), v7 = .slice a7 (x.2.1.2.length + 1) c7 → Run W0 (row 4 1 v' gbs.length (gbs.flatMap bV) :: pt b 66 [Ptr cb, x.1.1, .slice a7 (x.2.1.2.length + 1) c7, .chan (some chb), .pointer none, .map (some gb), .slice none 0 0] :: cacheA cb ⟨k, [], []⟩ :: row 59 5 x.1.1 x.1.2.length (x.1.2.flatMap fnG) :: big (x.1.2.map fRow) ::
        row 56 1 (.slice a7 (x.2.1.2.length + 1) c7) (x.2.1.2.length + 1) (x.2.1.2.flatMap pV ++ [v']) :: big (x.2.1.2.map pRow) :: ch chb ks.length ([].map IV) x.2.2.1 x.2.2.2 :: mp gb [] 0 :: pur (x.1.2.map (·.1) = fnsOf gs ∧ x.2.1.2.map (·.2) = pubOf (ps.take s)) :: pt b4 24 [cv] :: l)
        (fun w' => ∃ s', ps.length - s' < ps.length - s ∧ s' ≤ ps.length ∧ [.slice ak ks.length ck, Ptr b4, Ptr b, pv, IV ps.length, IV (s' : Int)] = [.slice ak ks.length ck, Ptr b4, Ptr b, pv, IV ps.length, IV ((s + 1 : Nat) : Int)] ∧ St W0 (newA b cb chb ks.length gb k (fnsOf gs) (pubOf (ps.take s')) [] :: pt b4 24 [cv] :: l) w') := by
      intro v' v7 a7 c7 _ _
      refine run_setPur 9 (x.1.2.map (·.1) = fnsOf gs ∧ (x.2.1.2 ++ [(v', gbs)]).map (·.2) = pubOf (ps.take (s + 1))) rfl ⟨hp.1, ?_⟩ ?_
      · unfold pubOf at hp ⊢
        rw [List.map_append, hp.2, List.take_add_one, hg, List.map_append]; rfl
      refine run_to (newPs b cb chb ks.length gb k (fnsOf gs) (pubOf (ps.take (s + 1))) [] (x.1, (.slice a7 (x.2.1.2.length + 1) c7, x.2.1.2 ++ [(v', gbs)]), x.2.2) ++ (pt b4 24 [cv] :: l)) (fun w hw => ?_) (run_pack _ ?_)
      · have h8 := St.mk9b (St.push (St.toPush2 hw))
        unfold newPs
        rw [List.map_append (f := pRow)]
        simp only [List.length_append, List.length_singleton, List.flatMap_append, List.flatMap_cons, List.flatMap_nil, List.append_nil]
        exact h8
      exact fun w hw => ⟨s + 1, by omega, by omega, rfl, hw⟩
    have hone : ∀ v' : Value, v'.oneCell' = true → ∀ u ∈ [v'], u.oneCell' = true := by intro v' hv' u hu; simp at hu; subst hu; exact hv'
    have hgr2 : ∀ {L : List As}, (∀ w, St W0 L w → St W0 l w) → Rd W0 L 1 gv gbs.length (gbs.flatMap bV) := fun hL => hgr.mono hL
    have toL : ∀ w, St W0 (newPs b cb chb ks.length gb k (fnsOf gs) (pubOf (ps.take s)) [] x ++ (pt b4 24 [cv] :: l)) w → St W0 l w := fun w hw => (St.drop2 (l := newPs b cb chb ks.length gb k (fnsOf gs) (pubOf (ps.take s)) [] x ++ [pt b4 24 [cv]]) (by rw [List.append_assoc]; exact hw))
    refine run_two ?_ (?_ : Run W0 _ _)
    · refine run_ld sc25 (cl1 (i := 0) rfl (v := x.2.1.1) rfl) (run_and (fun w hw => hw.nil) ?_)
      refine cloneBool_c (hgr.mono toL) (flat_one bV_one _) hgl fun v' _ => run_and (fun w hw => hw.nil) ?_
      refine run_row_rd 0 rfl fun hr6 => ?_
      obtain ⟨a6, c6, rfl, _, _, _⟩ := hr6.form
      refine run_buildSlice [.slice a6 gbs.length c6] un25 ty56 (by omega) (by omega) (by kernel_rfl) fun b6 => run_and (fun w hw => hw.nil) ?_
      refine run_append 6 un25 ty56 rfl rfl (Rd.pt (i := 0) rfl 1 (by simp)) (hone _ rfl) (by unfold maxLen; omega) (by omega) (by omega) fun v7 _ => run_and (fun w hw => hw.nil) ?_
      refine run_drop ?_
      try simp only [pureE, pureT, Nat.zero_add, Nat.reduceAdd, Bool.not_false, Bool.not_true]
      refine run_row_rd 5 rfl fun hr7 => ?_
      obtain ⟨a7, c7, rfl, _, _, _⟩ := hr7.form
      refine run_st ty25 (i := 1) rfl rfl (by simp [Value.cells, Value.oneCell']) (by simp) (run_and (fun w hw => hw.nil) ?_)
      try simp only [pureE, pureT, Nat.zero_add, Nat.reduceAdd, Bool.not_false, Bool.not_true]
      rw [wrN (x := (s : Int) + 1) (s + 1) (by omega) (by omega)]
      exact next _ _ a7 c7 pn rfl
    · refine cloneBool_c (hgr.mono toL) (flat_one bV_one _) hgl fun v' _ => run_and (fun w hw => hw.nil) ?_
      refine run_row_rd 0 rfl fun hr6 => ?_
      obtain ⟨a6, c6, rfl, _, _, _⟩ := hr6.form
      refine run_two ?_ ?_
      · refine run_ld sc25 (cl1 (i := 1) rfl (v := x.2.1.1) rfl) (run_and (fun w hw => hw.nil) ?_)
        refine run_buildSlice [.slice a6 gbs.length c6] un25 ty56 (by omega) (by omega) (by kernel_rfl) fun b6 => run_and (fun w hw => hw.nil) ?_
        refine run_append 6 un25 ty56 rfl rfl (Rd.pt (i := 0) rfl 1 (by simp)) (hone _ rfl) (by unfold maxLen; omega) (by omega) (by omega) fun v7 _ => run_and (fun w hw => hw.nil) ?_
        refine run_drop ?_
        try simp only [pureE, pureT, Nat.zero_add, Nat.reduceAdd, Bool.not_false, Bool.not_true]
        refine run_row_rd 5 rfl fun hr7 => ?_
        obtain ⟨a7, c7, rfl, _, _, _⟩ := hr7.form
        refine run_st ty25 (i := 1) rfl rfl (by simp [Value.cells, Value.oneCell']) (by simp) (run_and (fun w hw => hw.nil) ?_)
        try simp only [pureE, pureT, Nat.zero_add, Nat.reduceAdd, Bool.not_false, Bool.not_true]
        rw [wrN (x := (s : Int) + 1) (s + 1) (by omega) (by omega)]
        exact next _ _ a7 c7 pn rfl
      · refine run_buildSlice [.slice a6 gbs.length c6] un25 ty56 (by omega) (by omega) (by kernel_rfl) fun b6 => run_and (fun w hw => hw.nil) ?_
        refine run_ld sc25 (cl1 (i := 2) rfl (v := x.2.1.1) rfl) (run_and (fun w hw => hw.nil) ?_)
        refine run_append 6 un25 ty56 rfl rfl (Rd.pt (i := 0) rfl 1 (by simp)) (hone _ rfl) (by unfold maxLen; omega) (by omega) (by omega) fun v7 _ => run_and (fun w hw => hw.nil) ?_
        refine run_drop ?_
        try simp only [pureE, pureT, Nat.zero_add, Nat.reduceAdd, Bool.not_false, Bool.not_true]
        refine run_row_rd 5 rfl fun hr7 => ?_
        obtain ⟨a7, c7, rfl, _, _, _⟩ := hr7.form
        refine run_st ty25 (i := 1) rfl rfl (by simp [Value.cells, Value.oneCell']) (by simp) (run_and (fun w hw => hw.nil) ?_)
        try simp only [pureE, pureT, Nat.zero_add, Nat.reduceAdd, Bool.not_false, Bool.not_true]
        rw [wrN (x := (s : Int) + 1) (s + 1) (by omega) (by omega)]
        exact next _ _ a7 c7 pn rfl
  · rw [dec_f (show ¬ (s : Int) < (ps.length : Int) by omega)]
    try simp only [pureE, pureT, Nat.zero_add, Nat.reduceAdd, Bool.not_false, Bool.not_true]
    rw [List.take_of_length_le (by omega)]
    exact new3_c hc h1 hk h5 hcap h
end
end Go.Proofs.YtkonigmefmgepaaGreatDoor
