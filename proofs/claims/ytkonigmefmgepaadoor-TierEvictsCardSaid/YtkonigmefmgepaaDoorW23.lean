/- The law TierSkips, walked (own work). -/
import Derived.Test.YtkonigmefmgepaaDoorW22
namespace Go.Proofs.YtkonigmefmgepaaDoor
open Go.RowKit
set_option linter.unusedVariables false
set_option linter.unusedSimpArgs false

/-- A call that is asked for. -/
structure Ask where
  fn : Int
  av : Value
  args : List Int
  ov : Value
  other : List Int
def askC (a : Ask) : List Value := [IV a.fn, a.av, a.ov]
theorem askC_len (a : Ask) : (askC a).length = 3 := rfl
structure AskRd (W0 : World) (lv : Value) (qs : List Ask) : Prop where
  top : Rd W0 [] 3 lv qs.length (qs.flatMap askC)
  args : ∀ a ∈ qs, Rd W0 [] 1 a.av a.args.length (numC a.args)
  other : ∀ a ∈ qs, Rd W0 [] 1 a.ov a.other.length (numC a.other)
  rArgs : ∀ a ∈ qs, ∀ x ∈ a.args, M.R x
  rOther : ∀ a ∈ qs, ∀ x ∈ a.other, M.R x
theorem few_len (fs : List M.Fn) : (M.fewM fs).length ≤ 5 ∧ ∀ f ∈ M.fewM fs, f.l.length ≤ 60 := by
  unfold M.fewM
  refine ⟨by rw [List.length_map, List.length_take]; omega, fun f hf => ?_⟩
  obtain ⟨g, _, rfl⟩ := List.mem_map.1 hf
  simp only [List.length_take]
  omega
theorem few_ok (fs : List M.Fn) (pub : List (List Bool)) (cap : Int) (picks : List Int) : M.Ok (M.newM (M.fewM fs) pub cap picks) :=
  M.Ok.new (fun f hf => by have := (few_len fs).2 f hf; omega) (by have := (few_len fs).1; omega)

section
variable {W0 : World} {l : List As} {K : Value → C} {pn : Pn}

theorem fewNew_c {cv pv kv : Value} {gs : List FG} {ps : List PG} {ks : List Int} {cap : Int} (hc : CodeRd W0 [] cv gs) (hpr : PubRd W0 [] pv ps) (hk : Rd W0 l 1 kv ks.length (numC ks)) (h3 : ps.length * 24 ≤ 140737488355328) (h4 : ∀ e ∈ ps, e.2.length ≤ 140737488355328) (h5 : ks.length ≤ 4294967296)
    (h : ∀ b t, Run W0 (mgrA b t (M.newM (M.fewM (fnsOf gs)) (pubOf ps) cap ks) :: l) (K (Ptr b))) : Run W0 l (callS P 10 #[.agg #[cv]] (fun x => callS P 11 #[x, pv, IV cap, kv] K pn) pn) := by
  refine few_c hc (fun w hw => hw.nil) fun cv' gs' hgs hrd => ?_
  have hfs : fnsOf gs' = M.fewM (fnsOf gs) := hgs
  have hlen := few_len (fnsOf gs)
  rw [← hfs] at hlen
  refine run_row_rd 0 rfl fun hr0 => ?_
  refine new_c (ps := ps) (ks := ks) ⟨hr0, fun e he => (hrd e he).mono fun w hw => hw.nil⟩ (hpr.mono fun w hw => hw.nil) ?_ ?_ (hk.mono fun w hw => hw.tail) h3 h4 h5 fun b t => ?_
  · have := hlen.1
    unfold fnsOf at this
    rw [List.length_map] at this
    omega
  · intro e he
    have := hlen.2 e.1 (List.mem_map_of_mem he)
    omega
  · rw [hfs]
    refine run_to _ (fun w hw => ?_) (h b t)
    exact hw.erase 1

def idleB (p : Int) : Bool := decide (p < 1) || decide (3 < p)
theorem skips_c {cv pv kv lv : Value} {gs : List FG} {ps : List PG} {ks : List Int} {qs : List Ask} {cap : Int} (g : Glb W0) (hc : CodeRd W0 [] cv gs) (hpr : PubRd W0 [] pv ps) (hk : Rd W0 [] 1 kv ks.length (numC ks)) (hl : AskRd W0 lv qs)
    (h3 : ps.length * 24 ≤ 140737488355328) (h4 : ∀ e ∈ ps, e.2.length ≤ 140737488355328)
    (h : Run W0 [] (K (.bool true))) : Run W0 [] (callS P 4 #[.agg #[cv], pv, IV cap, kv, lv] K pn) := by
  obtain ⟨ak, ck, rfl, _, _, _⟩ := hk.form
  obtain ⟨al, cl', rfl, _, _, _⟩ := hl.top.form
  refine r4 ?_
  unfold S4
  refine run_box fun b5 => ?_
  refine shown_c g ?_
  have hcv := hc.top.one
  refine run_loop (σ := Nat × Value) (Inv := fun s => s.1 ≤ ks.length ∧ s.1 ≤ 200) (J := fun s => [pv, IV cap, .slice ak ks.length ck, .slice al qs.length cl', Ptr b5, .bool true, s.2, IV s.1])
    (H := fun s => row 2 1 s.2 ((ks.take s.1).filter idleB).length (numC ((ks.take s.1).filter idleB)) :: pt b5 24 [cv] :: []) (μ := fun s => 200 - s.1) (0, .slice none 0 0) (by simp) rfl (fun w hw => ?_) ?_
  · exact St.new hw ⟨rfl, rfl, rfl, Nat.le_refl _, fun _ _ _ => rfl⟩ (fun _ => False) (fun _ hx => hx.elim) ⟨by simp, .inl ⟨rfl, rfl, fun _ hx => hx⟩⟩
  rintro ⟨s, v⟩ e hs he
  simp only [List.map_cons, List.map_nil, List.cons.injEq, and_true] at he hs
  obtain ⟨e1, e2, e3, e4, e5, e11, e12, e13⟩ := he
  unfold S4_l1
  simp only [e1, e2, e3, e4, e5, e11, e12, e13]
  try simp only [pureE, pureT, Nat.zero_add, Nat.reduceAdd, Bool.not_false, Bool.not_true]
  have out : Run W0 (row 2 1 v ((ks.take s).filter idleB).length (numC ((ks.take s).filter idleB)) :: pt b5 24 [cv] :: []) (nextS P (V (Instr.loadAt 24 (Ptr b5))) (fun x49_22 => callS P 10 #[x49_22] (fun x50_23 => callS P 11 #[x50_23, pv, IV cap, v] (fun x54_24 =>
      nextS P (binN .eql 30 (Operand.tmp 55) (Operand.const (Value.pointer none)) x54_24 (Value.pointer none)) (fun x56_25 => condS x56_25 (K (Value.bool false))
      (LoopS [.slice al qs.length cl', .bool true, x54_24, (Value.int IntKind.i64 0)] [4, 11, 14, 15] fun nx3 e => S4_l3 nx3 K pn e)) pn) pn) pn) pn) := by
    refine run_lda ag24 ty24 (xs := [cv]) rfl (cl_all (i := 1) rfl) ?_
    refine run_row_rd 0 rfl fun hr0 => ?_
    refine fewNew_c hc hpr hr0 h3 h4 ?_ fun b t => ?_
    · have := List.length_filter_le idleB (ks.take s)
      rw [List.length_take] at this
      omega
    refine run_nx (.bool false) (fun w => pv_eqlPN un30) ?_
    try simp only [pureE, pureT, Nat.zero_add, Nat.reduceAdd, Bool.not_false, Bool.not_true]
    have hq0 : M.Quiet (M.newM (M.fewM (fnsOf gs)) (pubOf ps) cap ((ks.take s).filter idleB)) := M.Quiet.new fun p hp => by
      have := (List.mem_filter.1 hp).2
      unfold idleB at this
      simpa [Bool.or_eq_true, decide_eq_true_eq] using this
    have hok0 := few_ok (fnsOf gs) (pubOf ps) cap ((ks.take s).filter idleB)
    generalize M.newM (M.fewM (fnsOf gs)) (pubOf ps) cap ((ks.take s).filter idleB) = m0 at *
    refine run_loop (σ := Nat × M.Mgr) (Inv := fun s => (s.1 ≤ qs.length ∧ s.1 ≤ 100) ∧ M.Quiet s.2 ∧ M.Ok s.2) (J := fun s => [.slice al qs.length cl', .bool true, Ptr b, IV s.1])
      (H := fun s => [mgrA b t s.2]) (μ := fun s => 100 - s.1) (0, m0) ⟨⟨by simp, by simp⟩, hq0, hok0⟩ rfl (fun w hw => hw.head) ?_
    rintro ⟨i, m⟩ e ⟨⟨hi1, hi2⟩, hq, hok⟩ he
    simp only [List.map_cons, List.map_nil, List.cons.injEq, and_true] at he hi1 hi2 hq hok
    obtain ⟨e4, e11, e14, e15⟩ := he
    unfold S4_l3
    simp only [e4, e11, e14, e15]
    try simp only [pureE, pureT, Nat.zero_add, Nat.reduceAdd, Bool.not_false, Bool.not_true]
    have fin : Run W0 [mgrA b t m] (callS P 15 #[Ptr b] (fun x96 => nextS P (bltN .len #[40] 3 #[false] #[x96]) (fun x97 => nextS P (binN .eql 3 (Operand.tmp 97) (Operand.const (Value.int IntKind.i64 0)) x97 (Value.int IntKind.i64 0)) (fun x98 => K x98) pn) pn) pn) := by
      refine events_c (i := 0) rfl (by rw [hq.events]; simp) fun v' => ?_
      refine run_row_rd 0 rfl fun hre => ?_
      obtain ⟨ae, ce, rfl, _, _, _⟩ := hre.form
      try simp only [pureE, pureT, Nat.zero_add, Nat.reduceAdd, Bool.not_false, Bool.not_true]
      rw [hq.events]
      exact h.of fun w hw => hw.nil
    by_cases h6 : i < qs.length
    case neg =>
      rw [dec_f (show ¬ (i : Int) < (qs.length : Int) by omega)]
      try simp only [pureE, pureT, Nat.zero_add, Nat.reduceAdd, Bool.not_false, Bool.not_true]
      exact fin
    rw [dec_t (show (i : Int) < (qs.length : Int) by omega)]
    try simp only [pureE, pureT, Nat.zero_add, Nat.reduceAdd, Bool.not_false, Bool.not_true]
    by_cases h7 : i < 100
    case neg =>
      rw [dec_f (show ¬ (i : Int) < 100 by omega)]
      try simp only [pureE, pureT, Nat.zero_add, Nat.reduceAdd, Bool.not_false, Bool.not_true]
      exact fin
    rw [dec_t (show (i : Int) < 100 by omega)]
    try simp only [pureE, pureT, Nat.zero_add, Nat.reduceAdd, Bool.not_false, Bool.not_true]
    obtain ⟨a, ha⟩ : ∃ a, qs[i]? = some a := ⟨_, List.getElem?_eq_getElem h6⟩
    have ham := List.mem_of_getElem? ha
    refine run_draw [] (fun w hw => hw.nil) ?_
    refine run_rd_idxP un27 ty33 askC_len (by omega) hl.top i ha fun b6 o6 hc6 => ?_
    try simp only [pureE, pureT, Nat.zero_add, Nat.reduceAdd, Bool.not_false, Bool.not_true]
    refine take_ld sc3 (hc6.fld (k := 0) rfl) ?_
    refine run_rd_idxP un27 ty33 askC_len (by omega) hl.top i ha fun b7 o7 hc7 => ?_
    try simp only [pureE, pureT, Nat.zero_add, Nat.reduceAdd, Bool.not_false, Bool.not_true]
    refine take_ld sc26 (hc7.fld (k := 1) rfl) ?_
    refine enter_c (i := 0) (args := a.args) rfl ((hl.args a ham).mono fun w hw => hw.nil) hok (by rw [hq.events]; simp) fun v' => run_and (fun w hw => hw.nil) ?_
    obtain ⟨hres, hq'⟩ := hq.enter a.fn a.args
    have hok' := hok.enter a.fn a.args
    rw [hres]
    refine run_row_rd 0 rfl fun hre => ?_
    obtain ⟨ae, ce, rfl, _, _, _⟩ := hre.form
    try simp only [pureE, pureT, Nat.zero_add, Nat.reduceAdd, Bool.not_false, Bool.not_true]
    rw [show (((([] : List M.Ins).length : Nat) : Int) != 0) = false from rfl]
    try simp only [pureE, pureT, Nat.zero_add, Nat.reduceAdd, Bool.not_false, Bool.not_true]
    rw [show ((0 : Int) != 0) = false from rfl]
    try simp only [pureE, pureT, Nat.zero_add, Nat.reduceAdd, Bool.not_false, Bool.not_true]
    rw [wrN (x := (i : Int) + 1) (i + 1) (by omega) (by omega)]
    exact fun w hw => ⟨(i + 1, (M.enterM m a.fn a.args).2), by simp only; omega, ⟨⟨by simp only; omega, by simp only; omega⟩, hq', hok'⟩, rfl, hw.tail⟩
  by_cases h6 : s < ks.length
  case neg =>
    rw [dec_f (show ¬ (s : Int) < (ks.length : Int) by omega)]
    try simp only [pureE, pureT, Nat.zero_add, Nat.reduceAdd, Bool.not_false, Bool.not_true]
    exact out
  rw [dec_t (show (s : Int) < (ks.length : Int) by omega)]
  try simp only [pureE, pureT, Nat.zero_add, Nat.reduceAdd, Bool.not_false, Bool.not_true]
  by_cases h7 : s < 200
  case neg =>
    rw [dec_f (show ¬ (s : Int) < 200 by omega)]
    try simp only [pureE, pureT, Nat.zero_add, Nat.reduceAdd, Bool.not_false, Bool.not_true]
    exact out
  rw [dec_t (show (s : Int) < 200 by omega)]
  try simp only [pureE, pureT, Nat.zero_add, Nat.reduceAdd, Bool.not_false, Bool.not_true]
  obtain ⟨p, hp⟩ : ∃ p, ks[s]? = some p := ⟨_, List.getElem?_eq_getElem h6⟩
  have htk : ks.take (s + 1) = ks.take s ++ [p] := by rw [List.take_add_one, hp]; rfl
  have add : idleB p = true → Run W0 (row 2 1 v ((ks.take s).filter idleB).length (numC ((ks.take s).filter idleB)) :: pt b5 24 [cv] :: []) (nextS P (V (Instr.indexAt 26 (.slice ak ks.length ck) (IV s))) (fun x45 => nextS P (V (Instr.loadAt 2 x45)) (fun x46 => nextS P (V (Instr.buildSlice 26 1 #[(0, x46)])) (fun x47 =>
      nextS P (bltN .append #[26, 26] 26 #[false, false] #[v, x47]) (fun x48 => S4_k2 (fun vs' w' => ∃ s' : Nat × Value, 200 - s'.1 < 200 - s ∧ (s'.1 ≤ ks.length ∧ s'.1 ≤ 200) ∧ [pv, IV cap, .slice ak ks.length ck, .slice al qs.length cl', Ptr b5, .bool true, s'.2, IV (s'.1 : Int)] = vs' ∧ St W0 (row 2 1 s'.2 ((ks.take s'.1).filter idleB).length (numC ((ks.take s'.1).filter idleB)) :: pt b5 24 [cv] :: []) w')
        K pn pv (IV cap) (.slice ak ks.length ck) (.slice al qs.length cl') (Ptr b5) (.bool true) x48 (IV s)) pn) pn) pn) pn) := by
    intro hi
    refine run_rd_idx (l0 := []) un26 ty2 numV_len (by omega) hk s hp fun b6 o6 hc6 => ?_
    refine run_ld sc2 (hc6.mono fun w hw => hw.nil) ?_
    refine run_buildSlice (numV p) un26 ty2 (by omega) (by omega) (by kernel_rfl) fun b7 => ?_
    have hle := List.length_filter_le idleB (ks.take s)
    rw [List.length_take] at hle
    refine run_append 1 un26 ty2 rfl rfl (Rd.pt (i := 0) rfl 1 (by simp [numV])) (numV_one _) (by unfold maxLen; omega) (by omega) (by omega) fun v' _ => ?_
    refine run_drop ?_
    unfold S4_k2
    try simp only [pureE, pureT, Nat.zero_add, Nat.reduceAdd, Bool.not_false, Bool.not_true]
    rw [wrN (x := (s : Int) + 1) (s + 1) (by omega) (by omega)]
    refine run_to (row 2 1 v' ((ks.take (s + 1)).filter idleB).length (numC ((ks.take (s + 1)).filter idleB)) :: pt b5 24 [cv] :: []) (fun w hw => ?_) ?_
    · rw [htk, List.filter_append, List.filter_cons, if_pos hi]
      simp only [List.filter_nil, List.length_append, List.length_singleton, numC, List.flatMap_append, List.flatMap_cons, List.flatMap_nil, List.append_nil]
      exact hw
    exact fun w hw => ⟨(s + 1, v'), by simp only; omega, ⟨by simp only; omega, by simp only; omega⟩, rfl, hw⟩
  refine run_rd_idx (l0 := []) un26 ty2 numV_len (by omega) hk s hp fun b6 o6 hc6 => ?_
  refine run_ld sc2 (hc6.mono fun w hw => hw.nil) ?_
  try simp only [pureE, pureT, Nat.zero_add, Nat.reduceAdd, Bool.not_false, Bool.not_true]
  cases h8 : decide (p < 1)
  · try simp only [pureE, pureT, Nat.zero_add, Nat.reduceAdd, Bool.not_false, Bool.not_true]
    refine run_rd_idx (l0 := []) un26 ty2 numV_len (by omega) hk s hp fun b9 o9 hc9 => ?_
    refine run_ld sc2 (hc9.mono fun w hw => hw.nil) ?_
    try simp only [pureE, pureT, Nat.zero_add, Nat.reduceAdd, Bool.not_false, Bool.not_true]
    cases h9 : decide (3 < p)
    · try simp only [pureE, pureT, Nat.zero_add, Nat.reduceAdd, Bool.not_false, Bool.not_true]
      unfold S4_k2
      try simp only [pureE, pureT, Nat.zero_add, Nat.reduceAdd, Bool.not_false, Bool.not_true]
      rw [wrN (x := (s : Int) + 1) (s + 1) (by omega) (by omega)]
      have hi : idleB p = false := by unfold idleB; rw [h8, h9]; rfl
      refine run_to (row 2 1 v ((ks.take (s + 1)).filter idleB).length (numC ((ks.take (s + 1)).filter idleB)) :: pt b5 24 [cv] :: []) (fun w hw => ?_) ?_
      · rw [htk, List.filter_append, List.filter_cons, if_neg (by rw [hi]; simp)]
        simp only [List.filter_nil, List.append_nil]
        exact hw
      exact fun w hw => ⟨(s + 1, v), by simp only; omega, ⟨by simp only; omega, by simp only; omega⟩, rfl, hw⟩
    · try simp only [pureE, pureT, Nat.zero_add, Nat.reduceAdd, Bool.not_false, Bool.not_true]
      exact add (by unfold idleB; rw [h9]; simp)
  · try simp only [pureE, pureT, Nat.zero_add, Nat.reduceAdd, Bool.not_false, Bool.not_true]
    exact add (by unfold idleB; rw [h8]; rfl)
end
end Go.Proofs.YtkonigmefmgepaaDoor
