/- Contracts: a manager that is made (own work). -/
import Derived.Test.YtkonigmefmgepaaGreatDoorW17
import Derived.Test.YtkonigmefmgepaaGreatDoorL2
namespace Go.Proofs.YtkonigmefmgepaaGreatDoor
open Go.RowKit
set_option linter.unusedVariables false
set_option linter.unusedSimpArgs false

theorem Sat.swap {A B : As} {l : List As} {F : Nat → Prop} {w : World} (h : Sat (A :: B :: l) F w) : Sat (B :: A :: l) F w := by
  obtain ⟨F1, F2, h1, h2, h3, h4, G1, G2, g1, g2, g3, g4, g5⟩ := h
  exact ⟨G1, fun b => F1 b ∨ G2 b, fun b hb => h2 b (g1 b hb), fun b hb => hb.elim (h1 b) fun hb => h2 b (g2 b hb), fun b hb hq => hq.elim (fun hq => h3 b hq (g1 b hb)) (g3 b hb), g4,
    F1, G2, fun b hb => .inl hb, fun b hb => .inr hb, fun b hb hq => h3 b hb (g2 b hq), h4, g5⟩
theorem Sat.snoc {A : As} : ∀ {l : List As} {F : Nat → Prop} {w : World}, Sat (A :: l) F w → Sat (l ++ [A]) F w
  | [], F, w, h => h
  | B :: l, F, w, h => by
    obtain ⟨F1, F2, h1, h2, h3, h4, h5⟩ := h.swap
    exact ⟨F1, F2, h1, h2, h3, h4, Sat.snoc h5⟩
section
variable {W0 : World} {l : List As} {K : Value → C} {pn : Pn}

theorem run_two {A B : C} (h1 : Run W0 l A) (h2 : Run W0 l B) : Run W0 l (fun w => A w ∧ B w) := fun w hw => ⟨h1 w hw, h2 w hw⟩
/-- A piece more among several. -/
theorem St.push {A : As} {ps : List As} {w : World} (h : St W0 (A :: big ps :: l) w) : St W0 (big (ps ++ [A]) :: l) w := by
  have h1 : St W0 ([A, big ps] ++ l) w := h
  refine h1.pack fun F hs => ?_
  obtain ⟨F1, F2, h1, h2, h3, h4, G1, G2, g1, g2, g3, g4, _⟩ := hs
  exact Sat.snoc ⟨F1, G1, h1, fun b hb => h2 b (g1 b hb), fun b hb hq => h3 b hb (g1 b hq), h4, g4⟩

/-- What a row of functions, and what is public of them, reads as. -/
structure CodeRd (W0 : World) (l : List As) (cv : Value) (gs : List FG) : Prop where
  top : Rd W0 l 5 cv gs.length (gs.flatMap fnG)
  fns : ∀ e ∈ gs, Rd W0 l 3 e.2 e.1.l.length (insC e.1.l)
structure PubRd (W0 : World) (l : List As) (pv : Value) (ps : List PG) : Prop where
  top : Rd W0 l 1 pv ps.length (ps.flatMap pV)
  fns : ∀ e ∈ ps, Rd W0 l 1 e.1 e.2.length (e.2.flatMap bV)
theorem CodeRd.mono {l' : List As} {cv : Value} {gs : List FG} (h : CodeRd W0 l' cv gs) (hl : ∀ w, St W0 l w → St W0 l' w) : CodeRd W0 l cv gs := ⟨h.top.mono hl, fun e he => (h.fns e he).mono hl⟩
theorem PubRd.mono {l' : List As} {pv : Value} {ps : List PG} (h : PubRd W0 l' pv ps) (hl : ∀ w, St W0 l w → St W0 l' w) : PubRd W0 l pv ps := ⟨h.top.mono hl, fun e he => (h.fns e he).mono hl⟩
theorem Rd.oneC {l : List As} {sz v n xs} (h : Rd W0 l sz v n xs) : v.oneCell' = true := by
  obtain ⟨a, c, rfl, _⟩ := h.form
  rfl

theorem few_take (fs : List M.Fn) : M.fewM (fs.take (min fs.length 5)) = M.fewM fs := by
  unfold M.fewM
  rw [List.take_take]
  rcases Nat.le_total fs.length 5 with h | h
  · rw [List.take_of_length_le (by omega), List.take_of_length_le h]
  · rw [show min 5 (min fs.length 5) = 5 by omega]
def fewG (e : FG) (v : Value) : FG := ({ e.1 with params := M.clamp8 e.1.params, l := e.1.l.take 60 }, v)
theorem few_c {l0 : List As} {cv : Value} {gs : List FG} (hc : CodeRd W0 l0 cv gs) (hl0 : ∀ w, St W0 l w → St W0 l0 w) (h : ∀ (cv' : Value) (gs' : List FG), gs'.map (·.1) = M.fewM (gs.map (·.1)) → (∀ e ∈ gs', Rd W0 l0 3 e.2 e.1.l.length (insC e.1.l)) → Run W0 (row 59 5 cv' gs'.length (gs'.flatMap fnG) :: l) (K (.agg #[cv']))) :
    Run W0 l (callS P 5 #[.agg #[cv]] K pn) := by
  refine r5 ?_
  unfold S5
  obtain ⟨a, c, rfl, _, _, _⟩ := hc.top.form
  refine run_box fun b1 => ?_
  refine run_alloc ty24 fun b2 => ?_
  refine run_nx (.agg #[.slice none 0 0]) (fun w => by kernel_rfl) ?_
  refine run_alloc ty24 fun b3 => ?_
  refine run_st ty24 (i := 0) rfl rfl (by simp [Value.cells, Value.oneCell']) (by simp [Value.cells]) ?_
  let oPs : Nat → (Value × List FG) → List As := fun s x => [pt b3 24 [x.1], row 59 5 x.1 x.2.length (x.2.flatMap fnG), pur (x.2.map (·.1) = M.fewM ((gs.map (·.1)).take s) ∧ ∀ e ∈ x.2, Rd W0 l0 3 e.2 e.1.l.length (insC e.1.l))]
  refine run_loop (Inv := fun s : Nat => s ≤ min gs.length 5) (J := fun s => [Ptr b1, Ptr b2, Ptr b3, IV s]) (H := fun s => obj (oPs s) :: pt b2 24 [.slice none 0 0] :: pt b1 24 [.slice a gs.length c] :: l) (μ := fun s => 5 - s) 0 (by omega) rfl (fun w hw => ?_) ?_
  · have h4 : St W0 (row 59 5 (.slice none 0 0) 0 [] :: pt b3 24 [.slice none 0 0] :: pt b2 24 [.slice none 0 0] :: pt b1 24 [.slice a gs.length c] :: l) w := St.new hw ⟨rfl, rfl, rfl, Nat.le_refl _, fun _ _ _ => rfl⟩ (fun _ => False) (fun _ hx => hx.elim) ⟨by simp, .inl ⟨rfl, rfl, fun _ hx => hx⟩⟩
    have h5 : St W0 (pur ((([] : List FG).map (·.1) = M.fewM ((gs.map (·.1)).take 0)) ∧ ∀ e ∈ ([] : List FG), Rd W0 l0 3 e.2 e.1.l.length (insC e.1.l)) :: row 59 5 (.slice none 0 0) 0 [] :: pt b3 24 [.slice none 0 0] :: pt b2 24 [.slice none 0 0] :: pt b1 24 [.slice a gs.length c] :: l) w :=
      St.new h4 ⟨rfl, rfl, rfl, Nat.le_refl _, fun _ _ _ => rfl⟩ (fun _ => False) (fun _ hx => hx.elim) ⟨by simp [M.fewM], by simp⟩
    have h6 : St W0 (oPs 0 (.slice none 0 0, []) ++ (pt b2 24 [.slice none 0 0] :: pt b1 24 [.slice a gs.length c] :: l)) w := ((h5.front 1).front 2 : St W0 _ w)
    exact h6.pack fun F hs => ⟨_, hs⟩
  intro s e hs he
  simp only [List.map_cons, List.map_nil, List.cons.injEq, and_true] at he
  obtain ⟨e1, e2, e3, e4⟩ := he
  unfold S5_l1
  simp only [e1, e2, e3, e4]
  have hm3 : ∀ {A B D : As} (w : World), St W0 (A :: B :: D :: l) w → St W0 l w := fun w hw => hw.tail.tail.tail
  have htop := hc.top.mono fun w hw => hl0 w (hm3 (A := obj (oPs s)) (B := pt b2 24 [.slice none 0 0]) (D := pt b1 24 [.slice a gs.length c]) w hw)
  try simp only [pureE, pureT, Nat.zero_add, Nat.reduceAdd, Bool.not_false, Bool.not_true]
  refine run_ld sc22 (cl1 (i := 2) rfl rfl) ?_
  try simp only [pureE, pureT, Nat.zero_add, Nat.reduceAdd, Bool.not_false, Bool.not_true]
  have out : s = min gs.length 5 → Run W0 (obj (oPs s) :: pt b2 24 [.slice none 0 0] :: pt b1 24 [.slice a gs.length c] :: l) (nextS P (V (Instr.loadAt 24 (Ptr b3))) (fun x42_42 => nextS P (U (Instr.storeAt 24 (Ptr b2) x42_42)) (fun _ => cellS P 24 (Ptr b2) K) pn) pn) := by
    intro hse
    refine run_open 0 rfl fun x => ?_
    refine run_pur 2 rfl fun hp => ?_
    refine run_row_rd 1 rfl fun hrx => ?_
    obtain ⟨xv, xg⟩ := x
    simp only at hrx hp
    obtain ⟨a9, c9, rfl, _, _, _⟩ := hrx.form
    refine run_lda ag24 ty24 (xs := [.slice a9 xg.length c9]) rfl (cl_all (i := 0) rfl) ?_
    refine run_st ty24 (i := 3) rfl rfl (by simp [Value.cells, Value.oneCell']) (by simp [Value.cells]) ?_
    refine run_cell ag24 ty24 (xs := [.slice a9 xg.length c9]) rfl (cl_all (i := 3) rfl) ?_
    have := h (.slice a9 xg.length c9) xg (by have := few_take (gs.map (·.1)); rw [List.length_map] at this; rw [hp.1, hse, this]) hp.2
    refine run_to (row 59 5 (.slice a9 xg.length c9) xg.length (xg.flatMap fnG) :: l) (fun w hw => ?_) this
    exact ((((hw.front 1).erase 1).erase 1).erase 1).erase 1
  by_cases h5 : s < gs.length
  case neg =>
    rw [dec_f (show ¬ (s : Int) < (gs.length : Int) by omega)]
    try simp only [pureE, pureT, Nat.zero_add, Nat.reduceAdd, Bool.not_false, Bool.not_true]
    exact out (by omega)
  rw [dec_t (show (s : Int) < (gs.length : Int) by omega)]
  try simp only [pureE, pureT, Nat.zero_add, Nat.reduceAdd, Bool.not_false, Bool.not_true]
  by_cases h6 : s < 5
  case neg =>
    rw [dec_f (show ¬ (s : Int) < 5 by omega)]
    try simp only [pureE, pureT, Nat.zero_add, Nat.reduceAdd, Bool.not_false, Bool.not_true]
    exact out (by omega)
  rw [dec_t (show (s : Int) < 5 by omega)]
  obtain ⟨g, hg⟩ : ∃ g, gs[s]? = some g := ⟨_, List.getElem?_eq_getElem h5⟩
  have hgm := List.mem_of_getElem? hg
  obtain ⟨gf, gv⟩ := g
  have hgr := hc.fns _ hgm
  simp only at hgr
  obtain ⟨a3, c3, rfl, _, _, _⟩ := hgr.form
  have hg1 : (Value.slice a3 gf.l.length c3).oneCell' = true := rfl
  try simp only [pureE, pureT, Nat.zero_add, Nat.reduceAdd, Bool.not_false, Bool.not_true]
  refine run_ld sc22 (cl1 (i := 2) rfl rfl) ?_
  refine run_rd_idx un22 ty59 fnG_len (by omega) htop s hg fun b4 o4 hc4 => ?_
  refine run_lda ag59 ty59 rfl hc4 ?_
  refine run_alloc ty59 fun b5 => ?_
  refine run_st ty59 (i := 0) rfl rfl (by simpa [Value.cells] using fnG_one (gf, .slice a3 gf.l.length c3) hg1) (by simp [Value.cells]) ?_
  refine run_to (pt b5 59 (fnG (gf, .slice a3 gf.l.length c3)) :: obj (oPs s) :: pt b2 24 [.slice none 0 0] :: pt b1 24 [.slice a gs.length c] :: l) (fun w hw => hw) ?_
  try simp only [pureE, pureT, Nat.zero_add, Nat.reduceAdd, Bool.not_false, Bool.not_true]
  refine run_ld sc36 (cl1 (i := 0) (cs := fnG (gf, .slice a3 gf.l.length c3)) rfl (v := .slice a3 gf.l.length c3) rfl) ?_
  refine run_ld sc36 (cl1 (i := 0) (cs := fnG (gf, .slice a3 gf.l.length c3)) rfl (v := .slice a3 gf.l.length c3) rfl) ?_
  try simp only [pureE, pureT, Nat.zero_add, Nat.reduceAdd, Bool.not_false, Bool.not_true]
  rw [show min ((gf.l.length : Nat) : Int) 60 = ((min gf.l.length 60 : Nat) : Int) by omega]
  have hl4 : ∀ {A B D E : As} (w : World), St W0 (A :: B :: D :: E :: l) w → St W0 l w := fun w hw => hw.tail.tail.tail.tail
  have key := rd_cutHi (P := P) (k := .i64) un36 ty69 insV_len (by omega) hgr (i := min gf.l.length 60) (by omega)
  obtain ⟨v4, hv4, hr4⟩ := key
  refine run_nx _ hv4 ?_
  obtain ⟨a4, c4, rfl, _, _, _⟩ := hr4.form
  have hv41 : (Value.slice a4 (min gf.l.length 60) c4).oneCell' = true := rfl
  refine run_st ty36 (i := 0) rfl rfl (by simp [Value.cells, Value.oneCell']) (by simp [Value.cells, fnG, fnV]) ?_
  refine run_to (pt b5 59 (fnV gf (.slice a4 (min gf.l.length 60) c4)) :: obj (oPs s) :: pt b2 24 [.slice none 0 0] :: pt b1 24 [.slice a gs.length c] :: l) (fun w hw => hw) ?_
  refine run_ld sc3 (cl1 (i := 0) (cs := fnV gf (.slice a4 (min gf.l.length 60) c4)) rfl (v := IV gf.params) rfl) ?_
  try simp only [pureE, pureT, Nat.zero_add, Nat.reduceAdd, Bool.not_false, Bool.not_true]
  refine run_st ty3 (i := 0) rfl rfl (by simp [Value.cells, Value.oneCell']) (by simp [Value.cells, fnG, fnV]) ?_
  refine run_to (pt b5 59 (fnG (fewG (gf, .slice a3 gf.l.length c3) (.slice a4 (min gf.l.length 60) c4))) :: obj (oPs s) :: pt b2 24 [.slice none 0 0] :: pt b1 24 [.slice a gs.length c] :: l) (fun w hw => hw) ?_
  refine run_open 1 rfl fun x => ?_
  refine run_to (pt b3 24 [x.1] :: row 59 5 x.1 x.2.length (x.2.flatMap fnG) :: pur (x.2.map (·.1) = M.fewM ((gs.map (·.1)).take s) ∧ ∀ e ∈ x.2, Rd W0 l0 3 e.2 e.1.l.length (insC e.1.l)) :: pt b5 59 (fnG (fewG (gf, .slice a3 gf.l.length c3) (.slice a4 (min gf.l.length 60) c4))) :: pt b2 24 [.slice none 0 0] :: pt b1 24 [.slice a gs.length c] :: l) (fun w hw => hw) ?_
  refine run_pur 2 rfl fun hp => ?_
  refine run_ld sc22 (cl1 (i := 0) rfl rfl) ?_
  refine run_lda ag59 ty59 (xs := fnG (fewG (gf, .slice a3 gf.l.length c3) (.slice a4 (min gf.l.length 60) c4))) rfl (cl_all (i := 3) rfl) ?_
  refine run_buildSlice (fnG (fewG (gf, .slice a3 gf.l.length c3) (.slice a4 (min gf.l.length 60) c4))) un22 ty59 (by omega) (by omega) (by kernel_rfl) fun b6 => ?_
  have hxl : x.2.length = s := by
    have := congrArg List.length hp.1
    unfold M.fewM at this
    simp only [List.length_map, List.length_take] at this
    omega
  refine run_append 2 un22 ty59 rfl rfl (Rd.pt (i := 0) rfl 5 (by simp [fnG_len])) (fnG_one _ hv41) (by unfold maxLen; omega) (by omega) (by omega) fun v7 _ => ?_
  refine run_drop ?_
  refine run_row_rd 1 rfl fun hr7 => ?_
  obtain ⟨a7, c7, rfl, _, _, _⟩ := hr7.form
  refine run_st ty22 (i := 0) rfl rfl (by simp [Value.cells, Value.oneCell']) (by simp [Value.cells]) ?_
  rw [wrN (x := (s : Int) + 1) (s + 1) (by omega) (by omega)]
  refine run_erase 3 ?_
  have hnew : (x.2 ++ [fewG (gf, .slice a3 gf.l.length c3) (.slice a4 (min gf.l.length 60) c4)]).map (·.1) = M.fewM ((gs.map (·.1)).take (s + 1)) := by
    unfold M.fewM at hp ⊢
    rw [List.map_append, hp.1]
    rw [List.take_take, List.take_take, show min 5 s = s by omega, show min 5 (s + 1) = s + 1 by omega, List.take_add_one, List.map_append]
    congr 1
    rw [List.getElem?_map, hg]
    rfl
  refine run_setPur 2 ((x.2 ++ [fewG (gf, .slice a3 gf.l.length c3) (.slice a4 (min gf.l.length 60) c4)]).map (·.1) = M.fewM ((gs.map (·.1)).take (s + 1)) ∧ ∀ e ∈ x.2 ++ [fewG (gf, .slice a3 gf.l.length c3) (.slice a4 (min gf.l.length 60) c4)], Rd W0 l0 3 e.2 e.1.l.length (insC e.1.l)) rfl ⟨hnew, fun e he => ?_⟩ ?_
  · rcases List.mem_append.1 he with he | he
    · exact hp.2 e he
    · simp only [List.mem_singleton] at he
      subst he
      have e1 : min gf.l.length 60 = (gf.l.take 60).length := by rw [List.length_take]; omega
      have e2 : gf.l.take (min gf.l.length 60) = gf.l.take 60 := by
        rw [e1, List.length_take, ← List.take_take, List.take_length]
      have hr5 : Rd W0 l0 3 (.slice a4 (min gf.l.length 60) c4) (gf.l.take 60).length (insC (gf.l.take 60)) := by
        rw [← e1, ← e2]; exact hr4
      exact hr5
  refine run_to (oPs (s + 1) (.slice a7 (x.2.length + 1) c7, x.2 ++ [fewG (gf, .slice a3 gf.l.length c3) (.slice a4 (min gf.l.length 60) c4)]) ++ (pt b2 24 [.slice none 0 0] :: pt b1 24 [.slice a gs.length c] :: l)) (fun w hw => ?_) (run_pack _ ?_)
  · simp only [oPs, List.length_append, List.length_singleton, List.flatMap_append, List.flatMap_cons, List.flatMap_nil, List.append_nil]
    exact hw
  exact fun w hw => ⟨s + 1, by omega, by omega, rfl, hw⟩
end
end Go.Proofs.YtkonigmefmgepaaGreatDoor
