/- The law TierTells, walked (own work). -/
import Derived.Test.YtkonigmefmgepaaGreatDoorX
import Derived.Test.YtkonigmefmgepaaGreatDoorW22
namespace Go.Proofs.YtkonigmefmgepaaGreatDoor
open Go.RowKit
set_option linter.unusedVariables false
set_option linter.unusedSimpArgs false

/-- A call that is asked for. -/
structure Ask where
  fn : Int
  av : Value
  args : List Int
  ov : Value
  other : List Int
def askC (a : Ask) : List Value := [IV a.fn, a.av, a.ov]
theorem askC_len (a : Ask) : (askC a).length = 3 := rfl
structure AskRd (W0 : World) (lv : Value) (qs : List Ask) : Prop where
  top : Rd W0 [] 3 lv qs.length (qs.flatMap askC)
  args : ∀ a ∈ qs, Rd W0 [] 1 a.av a.args.length (numC a.args)
  other : ∀ a ∈ qs, Rd W0 [] 1 a.ov a.other.length (numC a.other)
  rArgs : ∀ a ∈ qs, ∀ x ∈ a.args, M.R x
  rOther : ∀ a ∈ qs, ∀ x ∈ a.other, M.R x
theorem few_len (fs : List M.Fn) : (M.fewM fs).length ≤ 5 ∧ ∀ f ∈ M.fewM fs, f.l.length ≤ 60 := by
  unfold M.fewM
  refine ⟨by rw [List.length_map, List.length_take]; omega, fun f hf => ?_⟩
  obtain ⟨g, _, rfl⟩ := List.mem_map.1 hf
  simp only [List.length_take]
  omega
theorem few_ok (fs : List M.Fn) (pub : List (List Bool)) (cap : Int) (picks : List Int) : M.Ok (M.newM (M.fewM fs) pub cap picks) :=
  M.Ok.new (fun f hf => by have := (few_len fs).2 f hf; omega) (by have := (few_len fs).1; omega)
theorem clamp_twice (n : Int) : M.clamp8 (M.clamp8 n) = M.clamp8 n := by unfold M.clamp8; omega
theorem few_fn {fs : List M.Fn} (hR : ∀ f ∈ fs, ∀ x ∈ f.l, M.RI x) : ∀ f ∈ M.fewM fs, FnOk f ∧ M.clamp8 f.params = f.params := by
  intro f hf
  have hl := (few_len fs).2 f hf
  unfold M.fewM at hf
  obtain ⟨g, hg, rfl⟩ := List.mem_map.1 hf
  refine ⟨⟨?_, fun y hy => hR g (List.mem_of_mem_take hg) y (List.mem_of_mem_take hy), by omega⟩, clamp_twice _⟩
  show 0 ≤ M.clamp8 g.params ∧ M.clamp8 g.params ≤ 8
  unfold M.clamp8
  omega

section
variable {W0 : World} {l : List As} {K : Value → C} {pn : Pn}

theorem fewIn_c {cv : Value} {gs : List FG} (hc : CodeRd W0 [] cv gs)
    (h : ∀ (cv' : Value) (gs' : List FG), fnsOf gs' = M.fewM (fnsOf gs) → gs'.length ≤ 5 → (∀ e ∈ gs', e.1.l.length ≤ 60) → (∀ e ∈ gs', Rd W0 [] 3 e.2 e.1.l.length (insC e.1.l)) →
      Run W0 (row 59 5 cv' gs'.length (gs'.flatMap fnG) :: l) (K (.agg #[cv']))) : Run W0 l (callS P 5 #[.agg #[cv]] K pn) := by
  refine few_c hc (fun w hw => hw.nil) fun cv' gs' hgs hrd => ?_
  have hfs : fnsOf gs' = M.fewM (fnsOf gs) := hgs
  have hlen := few_len (fnsOf gs)
  rw [← hfs] at hlen
  refine h cv' gs' hfs ?_ (fun e he => hlen.2 e.1 (List.mem_map_of_mem he)) hrd
  have := hlen.1
  unfold fnsOf at this
  rwa [List.length_map] at this

/-- What is held, call for call. -/
structure Both (fs : List M.Fn) (i : Nat) (m : M.Mgr) (r : M.RM) : Prop where
  ok : M.Ok m
  sim : M.Sim m r
  ev : m.events.length ≤ 3 * i
  pm : M.PM r
  fns : m.fns = fs
  cap : r.cap ≤ 32
theorem Both.enter {fs : List M.Fn} {i : Nat} {m : M.Mgr} {r : M.RM} (h : Both fs i m r) (fn : Int) (args : List Int) : Both fs (i + 1) (M.enterM m fn args).2 (M.enterR r fn args).2 := by
  have he := M.enterM_ev m fn args
  have hs := (h.sim.enter h.ok fn args).2
  refine ⟨h.ok.enter fn args, hs, by have := h.ev; omega, ?_, he.2.trans h.fns, ?_⟩
  · unfold M.enterR
    split
    · exact h.pm
    split
    · exact h.pm
    · rename_i f _
      have hm : M.PM (M.midR (M.popR r) f fn.toNat (r.picks.headD 0) args).2 := M.PM.mid (s := M.popR r) h.pm f fn.toNat _ args
      unfold M.endR
      split
      · exact hm
      split
      · exact hm
      · exact hm
  · have hc : ∀ (s : M.RM) k, (M.dropR s k).cap = s.cap := fun _ _ => rfl
    have hr : ∀ (s : M.RM), (M.roomR s).cap = s.cap := fun s => by
      unfold M.roomR
      split
      · split <;> rfl
      · rfl
    have hmid : ∀ f p, (M.midR (M.popR r) f fn.toNat p args).2.cap = r.cap := fun f p => by
      unfold M.midR
      split
      · exact hr _
      split
      · rfl
      · rfl
    unfold M.enterR
    split
    · exact h.cap
    split
    · exact h.cap
    · unfold M.endR
      split
      · simp only; rw [hmid]; exact h.cap
      split
      · show (M.midR _ _ _ _ _).2.cap ≤ 32; rw [hmid]; exact h.cap
      · show (M.midR _ _ _ _ _).2.cap ≤ 32; rw [hmid]; exact h.cap

theorem tells_c {cv pv kv lv : Value} {gs : List FG} {ps : List PG} {ks : List Int} {qs : List Ask} {cap : Int} (g : Glb W0) (hc : CodeRd W0 [] cv gs) (hgood : ∀ e ∈ gs, ∀ x ∈ e.1.l, M.RI x) (hpr : PubRd W0 [] pv ps) (hk : Rd W0 [] 1 kv ks.length (numC ks)) (hl : AskRd W0 lv qs)
    (h3 : ps.length * 24 ≤ 140737488355328) (h4 : ∀ e ∈ ps, e.2.length ≤ 140737488355328)
    (h : Run W0 [] (K (.bool true))) : Run W0 [] (callS P 3 #[.agg #[cv], pv, IV cap, kv, lv] K pn) := by
  obtain ⟨ak, ck, rfl, _, _, _⟩ := hk.form
  obtain ⟨al, cl', rfl, _, _, _⟩ := hl.top.form
  obtain ⟨a0, c0, rfl, _, _, _⟩ := hc.top.form
  refine r3 ?_
  unfold S3
  refine run_box fun b5 => ?_
  refine shown_c g ?_
  refine run_lda ag24 ty24 (xs := [.slice a0 gs.length c0]) rfl (cl_all (i := 0) rfl) ?_
  refine fewIn_c hc fun cv' gs' hfs hg5 hg60 hrd => ?_
  refine run_row_rd 0 rfl fun hr0 => ?_
  obtain ⟨a1, c1, rfl, _, _, _⟩ := hr0.form
  refine run_st ty24 (i := 1) rfl rfl (by simp [Value.cells, Value.oneCell']) (by simp [Value.cells]) ?_
  refine run_to (row 59 5 (.slice a1 gs'.length c1) gs'.length (gs'.flatMap fnG) :: pt b5 24 [.slice a1 gs'.length c1] :: []) (fun w hw => hw) ?_
  have hkl : (ks.take (min ks.length 200)).length = min ks.length 200 := by rw [List.length_take]; omega
  refine run_row_rd 0 rfl fun hrc => ?_
  try simp only [pureE, pureT, Nat.zero_add, Nat.reduceAdd, Bool.not_false, Bool.not_true]
  rw [show min ((ks.length : Nat) : Int) 200 = ((min ks.length 200 : Nat) : Int) by omega]
  refine run_rd_cutHi (l0 := []) un26 ty2 numV_len (by omega) hk (min ks.length 200) (by omega) fun kv' hk' => ?_
  refine run_lda ag24 ty24 (xs := [.slice a1 gs'.length c1]) rfl (cl_all (i := 1) rfl) ?_
  refine new_c (ps := ps) (ks := ks.take (min ks.length 200)) ⟨hrc, fun e he => (hrd e he).mono fun w hw => hw.nil⟩ (hpr.mono fun w hw => hw.nil) (by omega) (fun e he => by have := hg60 e he; omega) (by rw [hkl]; exact hk'.mono fun w hw => hw.nil) h3 h4 (by omega) fun b t => ?_
  rw [hfs]
  refine run_lda ag24 ty24 (xs := [.slice a1 gs'.length c1]) rfl (cl_all (i := 2) rfl) ?_
  refine run_row_rd 1 rfl fun hrc2 => ?_
  refine refR_c (gs := gs') ⟨hrc2, fun e he => (hrd e he).mono fun w hw => hw.nil⟩ (fun w hw => hw) hg5 hg60 fun lv2 gs2 hlv2 hgs2 => ?_
  refine newR_c (ks := ks.take (min ks.length 200)) (ps := ps) hlv2 hpr (by rw [hkl]; exact hk') fun b2 => ?_
  have hgs3 : gs2.map (·.1) = M.fewM (fnsOf gs) := hgs2.trans hfs
  rw [hgs3]
  refine run_nx (.bool false) (fun w => pv_eqlPN un30) ?_
  try simp only [pureE, pureT, Nat.zero_add, Nat.reduceAdd, Bool.not_false, Bool.not_true]
  have hfew := few_fn (fs := fnsOf gs) (fun f hf x hx => by
    unfold fnsOf at hf
    obtain ⟨e, he, rfl⟩ := List.mem_map.1 hf
    exact hgood e he x hx)
  have hb0 : Both (M.fewM (fnsOf gs)) 0 (M.newM (M.fewM (fnsOf gs)) (pubOf ps) cap (ks.take (min ks.length 200))) (M.newR (M.fewM (fnsOf gs)) (pubOf ps) cap (ks.take (min ks.length 200))) :=
    ⟨few_ok _ _ _ _, M.Sim.new fun f hf => (hfew f hf).2, Nat.le_refl _, fun e he => by simp [M.newR] at he, rfl, by show min (max cap 1) 32 ≤ 32; omega⟩
  generalize M.newM (M.fewM (fnsOf gs)) (pubOf ps) cap (ks.take (min ks.length 200)) = m0 at *
  have hpp : (ps.map fun e : PG => e.2) = pubOf ps := rfl
  rw [hpp]
  generalize M.newR (M.fewM (fnsOf gs)) (pubOf ps) cap (ks.take (min ks.length 200)) = q0 at *
  refine run_loop (σ := Nat × M.Mgr × M.RM) (Inv := fun s => (s.1 ≤ qs.length ∧ s.1 ≤ 100) ∧ Both (M.fewM (fnsOf gs)) s.1 s.2.1 s.2.2) (J := fun s => [.slice al qs.length cl', .bool true, Ptr b, Ptr b2, IV s.1])
    (H := fun s => refA W0 b2 s.2.2 :: mgrA b t s.2.1 :: []) (μ := fun s => 100 - s.1) (0, m0, q0) ⟨⟨by simp, by simp⟩, hb0⟩ rfl (fun w hw => ?_) ?_
  · have h8 : St W0 (refA W0 b2 q0 :: mgrA b t m0 :: _ :: _ :: []) w := hw
    exact (h8.erase 2).erase 2
  rintro ⟨i, m, r⟩ e ⟨⟨hi1, hi2⟩, hb⟩ he
  simp only [List.map_cons, List.map_nil, List.cons.injEq, and_true] at he hi1 hi2 hb
  obtain ⟨e4, e11, e12, e13, e14⟩ := he
  unfold S3_l1
  simp only [e4, e11, e12, e13, e14]
  have hevl := hb.ev
  have hrev : r.events = m.events := hb.sim.events
  try simp only [pureE, pureT, Nat.zero_add, Nat.reduceAdd, Bool.not_false, Bool.not_true]
  have fin : Run W0 (refA W0 b2 r :: mgrA b t m :: []) (callS P 12 #[Ptr b] (fun x101 => nextS P (bltN .len #[45] 3 #[false] #[x101]) (fun x103 => nextS P (V (Instr.loadAt 48 (.pointer (some ⟨b2, 5, none⟩)))) (fun x107 => nextS P (bltN .len #[48] 3 #[false] #[x107]) (fun x108 =>
      nextS P (binN .neq 3 (Operand.tmp 103) (Operand.tmp 108) x103 x108) (fun x109 => condS x109 (K (.bool false)) (LoopS [.bool true, Ptr b2, x101, IV 0] [11, 13, 21, 22] fun nx2 e => S3_l2 nx2 K pn e)) pn) pn) pn) pn) pn) := by
    refine events_c (i := 1) rfl (by omega) fun v1 => ?_
    refine run_to (refA W0 b2 r :: row 52 2 v1 m.events.length (m.events.flatMap evV) :: mgrA b t m :: []) (fun w hw => hw.front 1) ?_
    refine run_open 0 rfl fun x => ?_
    refine run_row_rd 3 rfl fun hr2 => ?_
    refine run_row_rd 6 rfl fun hr1 => ?_
    obtain ⟨v1a, v1c, rfl, _⟩ := hr1.form
    obtain ⟨v2a, v2c, hv2, _⟩ := hr2.form
    obtain ⟨xlv, xpv, xkv, xcv, xev, xgs, xes, xar⟩ := x
    simp only at hv2 hr2
    subst hv2
    try simp only [pureE, pureT, Nat.zero_add, Nat.reduceAdd, Bool.not_false, Bool.not_true]
    refine run_ld sc48 (cl1 (i := 0) rfl rfl) ?_
    try simp only [pureE, pureT, Nat.zero_add, Nat.reduceAdd, Bool.not_false, Bool.not_true]
    rw [hrev, show ((m.events.length : Int) != (m.events.length : Int)) = false from by simp]
    try simp only [pureE, pureT, Nat.zero_add, Nat.reduceAdd, Bool.not_false, Bool.not_true]
    rw [hrev] at hr1 hr2
    refine run_loop (σ := Nat) (Inv := fun s => s ≤ m.events.length) (J := fun s => [.bool true, Ptr b2, .slice v1a m.events.length v1c, IV s]) (H := fun _ => refPs W0 b2 r ⟨xlv, xpv, xkv, xcv, .slice v2a m.events.length v2c, xgs, xes, xar⟩ ++ [row 52 2 (.slice v1a m.events.length v1c) m.events.length (m.events.flatMap evV), mgrA b t m]) (μ := fun s => m.events.length - s) 0 (by omega) rfl (fun w hw => hw) ?_
    intro s e hs he
    simp only [List.map_cons, List.map_nil, List.cons.injEq, and_true] at he
    obtain ⟨e11, e13, e21, e22⟩ := he
    unfold S3_l2
    simp only [e11, e13, e21, e22]
    try simp only [pureE, pureT, Nat.zero_add, Nat.reduceAdd, Bool.not_false, Bool.not_true]
    by_cases hlt : s < m.events.length
    · rw [dec_t (show (s : Int) < (m.events.length : Int) by omega)]
      try simp only [pureE, pureT, Nat.zero_add, Nat.reduceAdd, Bool.not_false, Bool.not_true]
      obtain ⟨y, hy⟩ : ∃ y, m.events[s]? = some y := ⟨_, List.getElem?_eq_getElem hlt⟩
      refine run_draw (refPs W0 b2 r ⟨xlv, xpv, xkv, xcv, .slice v2a m.events.length v2c, xgs, xes, xar⟩ ++ [row 52 2 (.slice v1a m.events.length v1c) m.events.length (m.events.flatMap evV), mgrA b t m]) (fun _ hw => hw) ?_
      refine run_rd_idxP un45 ty52 evV_len (by omega) hr1 s hy fun b3 o3 hc3 => ?_
      try simp only [pureE, pureT, Nat.zero_add, Nat.reduceAdd, Bool.not_false, Bool.not_true]
      refine take_ld sc3 (hc3.fld (k := 0) rfl) ?_
      refine take_ld sc48 (cl1 (i := 0) rfl rfl) ?_
      refine run_rd_idxP un48 ty53 evV_len (by omega) hr2 s hy fun b4 o4 hc4 => ?_
      try simp only [pureE, pureT, Nat.zero_add, Nat.reduceAdd, Bool.not_false, Bool.not_true]
      refine take_ld sc3 (hc4.fld (k := 0) rfl) ?_
      try simp only [pureE, pureT, Nat.zero_add, Nat.reduceAdd, Bool.not_false, Bool.not_true]
      rw [show (y.1 != y.1) = false from by simp]
      try simp only [pureE, pureT, Nat.zero_add, Nat.reduceAdd, Bool.not_false, Bool.not_true]
      refine run_rd_idxP un45 ty52 evV_len (by omega) hr1 s hy fun b3 o3 hc3 => ?_
      try simp only [pureE, pureT, Nat.zero_add, Nat.reduceAdd, Bool.not_false, Bool.not_true]
      refine take_ld sc3 (hc3.fld (k := 1) rfl) ?_
      try simp only [pureE, pureT, Nat.zero_add, Nat.reduceAdd, Bool.not_false, Bool.not_true]
      refine take_ld sc48 (cl1 (i := 0) rfl rfl) ?_
      try simp only [pureE, pureT, Nat.zero_add, Nat.reduceAdd, Bool.not_false, Bool.not_true]
      refine run_rd_idxP un48 ty53 evV_len (by omega) hr2 s hy fun b4 o4 hc4 => ?_
      try simp only [pureE, pureT, Nat.zero_add, Nat.reduceAdd, Bool.not_false, Bool.not_true]
      refine take_ld sc3 (hc4.fld (k := 1) rfl) ?_
      try simp only [pureE, pureT, Nat.zero_add, Nat.reduceAdd, Bool.not_false, Bool.not_true]
      rw [show (y.2 != y.2) = false from by simp]
      try simp only [pureE, pureT, Nat.zero_add, Nat.reduceAdd, Bool.not_false, Bool.not_true]
      rw [wrN (x := (s : Int) + 1) (s + 1) (by omega) (by omega)]
      exact fun w hw => ⟨s + 1, by omega, by omega, rfl, hw⟩
    · rw [dec_f (show ¬ (s : Int) < (m.events.length : Int) by omega)]
      try simp only [pureE, pureT, Nat.zero_add, Nat.reduceAdd, Bool.not_false, Bool.not_true]
      exact h.of fun w hw => hw.nil
  by_cases h6 : i < qs.length
  case neg =>
    rw [dec_f (show ¬ (i : Int) < (qs.length : Int) by omega)]
    try simp only [pureE, pureT, Nat.zero_add, Nat.reduceAdd, Bool.not_false, Bool.not_true]
    exact fin
  rw [dec_t (show (i : Int) < (qs.length : Int) by omega)]
  try simp only [pureE, pureT, Nat.zero_add, Nat.reduceAdd, Bool.not_false, Bool.not_true]
  by_cases h7 : i < 100
  case neg =>
    rw [dec_f (show ¬ (i : Int) < 100 by omega)]
    try simp only [pureE, pureT, Nat.zero_add, Nat.reduceAdd, Bool.not_false, Bool.not_true]
    exact fin
  rw [dec_t (show (i : Int) < 100 by omega)]
  try simp only [pureE, pureT, Nat.zero_add, Nat.reduceAdd, Bool.not_false, Bool.not_true]
  obtain ⟨a, ha⟩ : ∃ a, qs[i]? = some a := ⟨_, List.getElem?_eq_getElem h6⟩
  have ham := List.mem_of_getElem? ha
  have hra := hl.args a ham
  have hRa := hl.rArgs a ham
  refine run_draw [] (fun w hw => hw.nil) ?_
  refine run_rd_idxP (l0 := []) un27 ty40 askC_len (by omega) hl.top i ha fun b10 o10 hc10 => ?_
  try simp only [pureE, pureT, Nat.zero_add, Nat.reduceAdd, Bool.not_false, Bool.not_true]
  refine take_ld sc3 (hc10.fld (k := 0) rfl) ?_
  refine run_rd_idxP (l0 := []) un27 ty40 askC_len (by omega) hl.top i ha fun b11 o11 hc11 => ?_
  try simp only [pureE, pureT, Nat.zero_add, Nat.reduceAdd, Bool.not_false, Bool.not_true]
  refine take_ld sc26 (hc11.fld (k := 1) rfl) ?_
  refine enter_c (i := 1) (s := m) (args := a.args) rfl (hra.mono fun w hw => hw.nil) hb.ok (by omega) fun v1 => run_and (fun w hw => hw.nil) ?_
  have hbl := M.enterM_len hb.ok a.fn a.args
  have hb' := hb.enter a.fn a.args
  have hsim := (hb.sim.enter hb.ok a.fn a.args).1
  try simp only [pureE, pureT, Nat.zero_add, Nat.reduceAdd, Bool.not_false, Bool.not_true]
  refine run_draw [] (fun w hw => hw.nil) ?_
  refine run_rd_idxP (l0 := []) un27 ty40 askC_len (by omega) hl.top i ha fun b10 o10 hc10 => ?_
  try simp only [pureE, pureT, Nat.zero_add, Nat.reduceAdd, Bool.not_false, Bool.not_true]
  refine take_ld sc3 (hc10.fld (k := 0) rfl) ?_
  refine run_rd_idxP (l0 := []) un27 ty40 askC_len (by omega) hl.top i ha fun b11 o11 hc11 => ?_
  try simp only [pureE, pureT, Nat.zero_add, Nat.reduceAdd, Bool.not_false, Bool.not_true]
  refine take_ld sc26 (hc11.fld (k := 1) rfl) ?_
  refine run_to (refA W0 b2 r :: row 69 3 v1 (M.enterM m a.fn a.args).1.1.length (insC (M.enterM m a.fn a.args).1.1) :: mgrA b t (M.enterM m a.fn a.args).2 :: []) (fun w hw => hw.front 1) ?_
  have hcl : (r.cache.length : Int) ≤ 32 := Int.le_trans hb.sim.le hb.cap
  refine enterR_c (args := a.args) (by rw [hrev]; omega) (by omega) (by rw [hb.sim.cap]; exact hb.ok.cap) hb.sim.nd hb.pm (fun f hf => (hfew f (by rw [← hb.fns, ← hb.sim.fns]; exact hf)).1) hra hRa fun x' v' hf' hv' => run_and (fun w hw => hw.nil) ?_
  rw [hsim] at hv' ⊢
  generalize M.enterM m a.fn a.args = rm at *
  generalize M.enterR r a.fn a.args = rr at *
  try simp only [pureE, pureT, Nat.zero_add, Nat.reduceAdd, Bool.not_false, Bool.not_true]
  refine run_nx (.bool !(rm.1.2.1 == rm.1.2.1)) (fun w => pv_neqB un4) ?_
  rw [show (!(rm.1.2.1 == rm.1.2.1)) = false from by simp]
  try simp only [pureE, pureT, Nat.zero_add, Nat.reduceAdd, Bool.not_false, Bool.not_true]
  rw [show (rm.1.2.2 != rm.1.2.2) = false from by simp]
  try simp only [pureE, pureT, Nat.zero_add, Nat.reduceAdd, Bool.not_false, Bool.not_true]
  refine run_row_rd 6 rfl fun hr1 => ?_
  have hrv : ∀ {c : C}, (∀ n2, Rd W0 (refPs W0 b2 rr.2 x' ++ [row 69 3 v1 rm.1.1.length (insC rm.1.1), mgrA b t rm.2]) 3 v' n2 (insC rm.1.1) → Run W0 (refPs W0 b2 rr.2 x' ++ [row 69 3 v1 rm.1.1.length (insC rm.1.1), mgrA b t rm.2]) c) → Run W0 (refPs W0 b2 rr.2 x' ++ [row 69 3 v1 rm.1.1.length (insC rm.1.1), mgrA b t rm.2]) c := by
    intro c hc
    rcases hv' with hv' | ⟨rfl, hnil⟩
    · exact run_arr (j := 4) rfl fun harr => hc _ (harr _ hv')
    · refine hc 0 ?_
      rw [hnil]
      exact Rd.nil
  refine hrv fun n2 hr2 => ?_
  refine sameR_c hr1 hr2 hbl ?_
  try simp only [pureE, pureT, Nat.zero_add, Nat.reduceAdd, Bool.not_false, Bool.not_true]
  rw [wrN (x := (i : Int) + 1) (i + 1) (by omega) (by omega)]
  refine fun w hw => ⟨(i + 1, rm.2, rr.2), by simp only; omega, ⟨⟨by simp only; omega, by simp only; omega⟩, hb'⟩, rfl, ?_⟩
  have g1 : St W0 (refA W0 b2 rr.2 :: [row 69 3 v1 rm.1.1.length (insC rm.1.1), mgrA b t rm.2]) w := St.pack (ps := refPs W0 b2 rr.2 x') hw fun F hs => ⟨x', hs⟩
  exact g1.erase 1
end
end Go.Proofs.YtkonigmefmgepaaGreatDoor
