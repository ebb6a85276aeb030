/- Contracts: a manager that is made, the loops (own work). -/
import Derived.Test.YtkonigmefmgepaaGreatDoorW18
namespace Go.Proofs.YtkonigmefmgepaaGreatDoor
open Go.RowKit
set_option linter.unusedVariables false
set_option linter.unusedSimpArgs false

abbrev fnsOf (gs : List FG) : List M.Fn := gs.map fun e : FG => e.1
abbrev parOf (gs : List FG) : List Int := gs.map fun e : FG => e.1.params
abbrev pubOf (ps : List PG) : List (List Bool) := ps.map fun e : PG => e.2
abbrev NB := (Value × List FG) × (Value × List PG) × (Nat × Nat)
/-- A manager in the making. -/
def newPs (b cb chb cap gb : Nat) (k : Int) (fs : List M.Fn) (pub : List (List Bool)) (picks : List Int) (x : NB) : List As :=
  [pt b 66 [Ptr cb, x.1.1, x.2.1.1, .chan (some chb), .pointer none, .map (some gb), .slice none 0 0], cacheA cb ⟨k, [], []⟩, row 59 5 x.1.1 x.1.2.length (x.1.2.flatMap fnG), big (x.1.2.map fRow),
    row 56 1 x.2.1.1 x.2.1.2.length (x.2.1.2.flatMap pV), big (x.2.1.2.map pRow), ch chb cap (picks.map IV) x.2.2.1 x.2.2.2, mp gb [] 0, pur (x.1.2.map (·.1) = fs ∧ x.2.1.2.map (·.2) = pub)]
def newA (b cb chb cap gb : Nat) (k : Int) (fs : List M.Fn) (pub : List (List Bool)) (picks : List Int) : As := obj (newPs b cb chb cap gb k fs pub picks)

section
variable {W0 : World} {l : List As} {K : Value → C} {pn : Pn}
variable {b cb chb cap gb b4 : Nat} {k : Int} {cv pv kv : Value} {gs : List FG} {ps : List PG} {ks : List Int}

theorem St.mk11 {P R A0 A1 A2 A3 A4 A5 A6 A7 X Q : As} {w : World} (h0 : St W0 (P :: R :: A0 :: A1 :: A2 :: A3 :: A4 :: A5 :: A6 :: A7 :: X :: Q :: l) w) : St W0 (A0 :: A1 :: A2 :: A3 :: A4 :: A5 :: A6 :: Q :: A7 :: R :: P :: l) w := by
  have h1 : St W0 (R :: P :: A0 :: A1 :: A2 :: A3 :: A4 :: A5 :: A6 :: A7 :: X :: Q :: l) w := h0.front 1
  have h2 : St W0 (A7 :: R :: P :: A0 :: A1 :: A2 :: A3 :: A4 :: A5 :: A6 :: X :: Q :: l) w := h1.front 9
  have h3 : St W0 (Q :: A7 :: R :: P :: A0 :: A1 :: A2 :: A3 :: A4 :: A5 :: A6 :: X :: l) w := h2.front 11
  have h4 : St W0 (A6 :: Q :: A7 :: R :: P :: A0 :: A1 :: A2 :: A3 :: A4 :: A5 :: X :: l) w := h3.front 10
  have h5 : St W0 (A5 :: A6 :: Q :: A7 :: R :: P :: A0 :: A1 :: A2 :: A3 :: A4 :: X :: l) w := h4.front 10
  have h6 : St W0 (A4 :: A5 :: A6 :: Q :: A7 :: R :: P :: A0 :: A1 :: A2 :: A3 :: X :: l) w := h5.front 10
  have h7 : St W0 (A3 :: A4 :: A5 :: A6 :: Q :: A7 :: R :: P :: A0 :: A1 :: A2 :: X :: l) w := h6.front 10
  have h8 : St W0 (A2 :: A3 :: A4 :: A5 :: A6 :: Q :: A7 :: R :: P :: A0 :: A1 :: X :: l) w := h7.front 10
  have h9 : St W0 (A1 :: A2 :: A3 :: A4 :: A5 :: A6 :: Q :: A7 :: R :: P :: A0 :: X :: l) w := h8.front 10
  have h10 : St W0 (A0 :: A1 :: A2 :: A3 :: A4 :: A5 :: A6 :: Q :: A7 :: R :: P :: X :: l) w := h9.front 10
  exact h10.erase 11
theorem new4_c (hc : CodeRd W0 l cv gs) (h1 : gs.length ≤ 4294967296) (hcap : ∃ c : Int, k = min (max c 1) 32)
    (h : ∀ t c, k = min (max c 1) 32 → Run W0 (mgrA b t (M.newM (fnsOf gs) (pubOf ps) c ks) :: l) (K (Ptr b))) :
    Run W0 (newA b cb chb cap gb k (fnsOf gs) (pubOf ps) ks :: pt b4 24 [cv] :: l) (LoopS [Ptr b, .slice none 0 0, cv, IV gs.length, IV 0] [9, 16, 82, 83, 84] fun nx e => S6_l4 nx K pn e) := by
  obtain ⟨a, c, rfl, _, _, _⟩ := hc.top.form
  refine run_loop (σ := Nat × Value) (Inv := fun s => s.1 ≤ gs.length) (J := fun s => [Ptr b, s.2, .slice a gs.length c, IV gs.length, IV s.1])
    (H := fun s => row 3 1 s.2 s.1 (numC ((parOf gs).take s.1)) :: newA b cb chb cap gb k (fnsOf gs) (pubOf ps) ks :: pt b4 24 [.slice a gs.length c] :: l) (μ := fun s => gs.length - s.1) (0, .slice none 0 0) (by simp) rfl (fun w hw => ?_) ?_
  · exact St.new hw ⟨rfl, rfl, rfl, Nat.le_refl _, fun _ _ _ => rfl⟩ (fun _ => False) (fun _ hx => hx.elim) ⟨by simp, .inl ⟨rfl, rfl, fun _ hx => hx⟩⟩
  rintro ⟨s, v⟩ e hs he
  simp only [List.map_cons, List.map_nil, List.cons.injEq, and_true] at he hs
  obtain ⟨e9, e16, e82, e83, e84⟩ := he
  unfold S6_l4
  simp only [e9, e16, e82, e83, e84]
  try simp only [pureE, pureT, Nat.zero_add, Nat.reduceAdd, Bool.not_false, Bool.not_true]
  by_cases hlt : s < gs.length
  · rw [dec_t (show (s : Int) < (gs.length : Int) by omega)]
    try simp only [pureE, pureT, Nat.zero_add, Nat.reduceAdd, Bool.not_false, Bool.not_true]
    obtain ⟨g, hg⟩ : ∃ g, gs[s]? = some g := ⟨_, List.getElem?_eq_getElem hlt⟩
    have hgm := List.mem_of_getElem? hg
    have hg1 := (hc.fns g hgm).one.1
    refine run_rd_idx (l0 := l) un22 ty59 fnG_len (by omega) hc.top s hg fun b5 o5 hc5 => ?_
    refine run_lda ag59 ty59 rfl (hc5.mono fun w hw => hw.tail.tail.tail) ?_
    refine run_alloc ty59 fun b6 => ?_
    refine run_st ty59 (i := 0) rfl rfl (by simpa [Value.cells] using fnG_one g hg1) (by simp [Value.cells]) ?_
    refine run_to (pt b6 59 (fnG g) :: row 3 1 v s (numC ((parOf gs).take s)) :: newA b cb chb cap gb k (fnsOf gs) (pubOf ps) ks :: pt b4 24 [.slice a gs.length c] :: l) (fun w hw => hw) ?_
    try simp only [pureE, pureT, Nat.zero_add, Nat.reduceAdd, Bool.not_false, Bool.not_true]
    refine run_ld sc3 (cl1 (i := 0) (cs := fnG g) rfl (v := IV g.1.params) rfl) ?_
    refine run_buildSlice (numV g.1.params) un71 ty3 (by omega) (by omega) (by kernel_rfl) fun b7 => ?_
    refine run_append 2 un71 ty3 rfl rfl (Rd.pt (i := 0) rfl 1 (by simp [numV])) (numV_one _) (by unfold maxLen; omega) (by omega) (by omega) fun v' _ => ?_
    refine run_drop (run_drop ?_)
    rw [wrN (x := (s : Int) + 1) (s + 1) (by omega) (by omega)]
    have hnew : numC ((parOf gs).take s) ++ numV g.1.params = numC ((parOf gs).take (s + 1)) := by
      unfold parOf
      rw [List.take_add_one, List.getElem?_map, hg]
      simp only [Option.map_some, Option.toList_some, numC, List.flatMap_append, List.flatMap_cons, List.flatMap_nil, List.append_nil]
    refine run_to (row 3 1 v' (s + 1) (numC ((parOf gs).take (s + 1))) :: newA b cb chb cap gb k (fnsOf gs) (pubOf ps) ks :: pt b4 24 [.slice a gs.length c] :: l) (fun w hw => ?_) ?_
    · rw [← hnew]; exact hw
    exact fun w hw => ⟨(s + 1, v'), by simp only; omega, by simp only; omega, rfl, hw⟩
  · rw [dec_f (show ¬ (s : Int) < (gs.length : Int) by omega)]
    try simp only [pureE, pureT, Nat.zero_add, Nat.reduceAdd, Bool.not_false, Bool.not_true]
    have hse : s = gs.length := by omega
    subst hse
    refine run_row_rd 0 rfl fun hrv => ?_
    have hpl : (parOf gs).take gs.length = (fnsOf gs).map (·.params) := by
      unfold parOf fnsOf
      rw [List.take_of_length_le (by simp), List.map_map]; rfl
    rw [hpl] at hrv ⊢
    refine profNew_c hrv h1 fun pb => ?_
    try simp only [pureE, pureT, Nat.zero_add, Nat.reduceAdd, Bool.not_false, Bool.not_true]
    refine run_open 2 rfl fun x => ?_
    refine run_to (newPs b cb chb cap gb k (fnsOf gs) (pubOf ps) ks x ++ (profA pb (M.newP ((fnsOf gs).map (·.params))) :: row 3 1 v gs.length (numC ((fnsOf gs).map (·.params))) :: pt b4 24 [.slice a gs.length c] :: l)) (fun w hw => hw) ?_
    refine run_pur 8 rfl fun hp => ?_
    refine run_st ty64 (i := 0) rfl rfl (by simp [Value.cells, Value.oneCell']) (by simp) ?_
    refine run_erase 11 (run_erase 10 ?_)
    refine run_rowNil 52 2 ?_
    obtain ⟨c0, hc0⟩ := hcap
    let t : MS := ⟨cb, pb, chb, cap, gb, x.1.1, x.2.1.1, x.1.2, x.2.1.2⟩
    refine run_newPur ((([] : List GG).map ggMod = ([] : List (Int × (Int × Int)))) ∧ x.1.2.map (·.1) = fnsOf gs ∧ x.2.1.2.map (·.2) = pubOf ps) ⟨rfl, hp.1, hp.2⟩ ?_
    refine run_to (mgrPs b t (M.newM (fnsOf gs) (pubOf ps) c0 ks) ⟨.slice none 0 0, 0, x.2.2.1, x.2.2.2, []⟩ ++ l) (fun w hw => ?_) (run_pack _ (h t c0 hc0))
    subst hc0
    exact St.mk11 hw

theorem new3_c (hc : CodeRd W0 l cv gs) (h1 : gs.length ≤ 4294967296) (hk : Rd W0 l 1 kv ks.length (numC ks)) (h5 : ks.length ≤ 4294967296) (hcap : ∃ c : Int, k = min (max c 1) 32)
    (h : ∀ t c, k = min (max c 1) 32 → Run W0 (mgrA b t (M.newM (fnsOf gs) (pubOf ps) c ks) :: l) (K (Ptr b))) :
    Run W0 (newA b cb chb ks.length gb k (fnsOf gs) (pubOf ps) [] :: pt b4 24 [cv] :: l) (LoopS [Ptr b4, Ptr b, kv, IV ks.length, IV 0] [4, 9, 69, 70, 71] fun nx e => S6_l3 nx K pn e) := by
  obtain ⟨a, c, rfl, _, _, _⟩ := hc.top.form
  refine run_loop (Inv := fun s : Nat => s ≤ ks.length) (J := fun s => [Ptr b4, Ptr b, kv, IV ks.length, IV s])
    (H := fun s => newA b cb chb ks.length gb k (fnsOf gs) (pubOf ps) (ks.take s) :: pt b4 24 [.slice a gs.length c] :: l) (μ := fun s => ks.length - s) 0 (by simp) rfl (fun w hw => hw) ?_
  intro s e hs he
  simp only [List.map_cons, List.map_nil, List.cons.injEq, and_true] at he
  obtain ⟨e4, e9, e69, e70, e71⟩ := he
  unfold S6_l3
  simp only [e4, e9, e69, e70, e71]
  try simp only [pureE, pureT, Nat.zero_add, Nat.reduceAdd, Bool.not_false, Bool.not_true]
  by_cases hlt : s < ks.length
  · rw [dec_t (show (s : Int) < (ks.length : Int) by omega)]
    try simp only [pureE, pureT, Nat.zero_add, Nat.reduceAdd, Bool.not_false, Bool.not_true]
    obtain ⟨g, hg⟩ : ∃ g, ks[s]? = some g := ⟨_, List.getElem?_eq_getElem hlt⟩
    refine run_rd_idx (l0 := l) un26 ty2 numV_len (by omega) hk s hg fun b5 o5 hc5 => ?_
    refine run_ld sc2 (hc5.mono fun w hw => hw.tail.tail) ?_
    try simp only [pureE, pureT, Nat.zero_add, Nat.reduceAdd, Bool.not_false, Bool.not_true]
    refine run_open 0 rfl fun x => ?_
    refine run_ld sc62 (cl1 (i := 0) rfl rfl) ?_
    refine run_send (i := 6) (buf := (ks.take s).map IV) rfl (by simp; omega) fun s' => ?_
    try simp only [pureE, pureT, Nat.zero_add, Nat.reduceAdd, Bool.not_false, Bool.not_true]
    rw [wrN (x := (s : Int) + 1) (s + 1) (by omega) (by omega)]
    refine run_to (newPs b cb chb ks.length gb k (fnsOf gs) (pubOf ps) (ks.take (s + 1)) (x.1, x.2.1, (s', x.2.2.2)) ++ (pt b4 24 [.slice a gs.length c] :: l)) (fun w hw => ?_) (run_pack _ ?_)
    · unfold newPs
      rw [List.take_add_one, hg, Option.toList_some, List.map_append]
      exact hw
    exact fun w hw => ⟨s + 1, by omega, by omega, rfl, hw⟩
  · rw [dec_f (show ¬ (s : Int) < (ks.length : Int) by omega)]
    try simp only [pureE, pureT, Nat.zero_add, Nat.reduceAdd, Bool.not_false, Bool.not_true]
    refine run_ld sc22 (cl1 (i := 1) rfl rfl) ?_
    try simp only [pureE, pureT, Nat.zero_add, Nat.reduceAdd, Bool.not_false, Bool.not_true]
    rw [List.take_of_length_le (by omega)]
    exact new4_c hc h1 hcap h
end
end Go.Proofs.YtkonigmefmgepaaGreatDoor
