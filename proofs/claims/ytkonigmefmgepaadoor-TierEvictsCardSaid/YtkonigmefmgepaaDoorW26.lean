/- The law TierKeeps, walked (own work). -/
import Derived.Test.YtkonigmefmgepaaDoorW25
namespace Go.Proofs.YtkonigmefmgepaaDoor
open Go.RowKit
set_option linter.unusedVariables false
set_option linter.unusedSimpArgs false

section
variable {W0 : World} {l : List As} {K : Value → C} {pn : Pn}

/-- The pair's manager. -/
theorem pairNew_c {ks : List Int} {cap : Int} {kb : Nat} {n : Nat} (hk : ks.length ≤ 4294967296) {L : List As} (hks : Rd W0 L 1 (.slice (some ⟨kb, 0, none⟩) n n) ks.length (numC ks)) {cv : Value} {gs : List FG} {b1 b2 : Nat} {i1 i2 i3 i4 : Nat}
    (hgs : fnsOf gs = M.pairM) (hg2 : gs.length = 2) (hg4 : ∀ e ∈ gs, e.1.l.length ≤ 4) (h1 : L[i1]? = some (pt b1 4 [.bool true])) (h2 : L[i2]? = some (pt b2 34 ((pubPair b1).flatMap pV)))
    (h3 : L[i3]? = some (row 46 5 cv gs.length (gs.flatMap fnG))) (h4 : L[i4]? = some (big (gs.map fRow)))
    (h : ∀ b t, Run W0 (mgrA b t (M.newM M.pairM [[], [true]] cap ks) :: L) (K (Ptr b))) : Run W0 L (callS P 11 #[.agg #[cv], .slice (some ⟨b2, 0, none⟩) 2 2, IV cap, .slice (some ⟨kb, 0, none⟩) n n] K pn) := by
  refine run_codeRd (i := i3) (j := i4) h3 h4 fun hcr => ?_
  refine new_c (ps := pubPair b1) (ks := ks) hcr ⟨Rd.pt (i := i2) h2 1 rfl, ?_⟩ (by omega) (fun e he => by have := hg4 e he; omega) hks (by simp [pubPair]) ?_ hk fun b t => ?_
  · intro e he
    simp only [pubPair, List.mem_cons, List.not_mem_nil, or_false] at he
    rcases he with rfl | rfl
    · exact Rd.nil
    · exact Rd.pt (i := i1) h1 1 rfl
  · intro e he
    simp only [pubPair, List.mem_cons, List.not_mem_nil, or_false] at he
    rcases he with rfl | rfl <;> simp
  · rw [hgs]
    exact h b t

theorem keepB_ne (special : Bool) (x : Int) : M.keepB special x ≠ [] := by cases special <;> simp [M.keepB]

theorem keeps_k {lv : Value} {ks : List Int} (special : Bool) (hk : Rd W0 [] 1 lv ks.length (numC ks)) (h : Run W0 [] (K (.bool true))) : Run W0 [] (S6_k1 K pn (.bool special) lv (.bool true) (IV (if special then 2 else 1))) := by
  obtain ⟨ak, ck, rfl, _, _, _⟩ := hk.form
  unfold S6_k1
  refine pairO_c fun cv gs hgs hg2 hg4 => ?_
  refine run_buildSlice [.bool true] un34 ty4 (by omega) (by omega) (by kernel_rfl) fun b1 => ?_
  refine run_buildSlice ((pubPair b1).flatMap pV) un25 ty34 (by omega) (by omega) (by kernel_rfl) fun b2 => ?_
  refine run_buildSlice (numC [if special then 2 else 1]) un26 ty2 (by omega) (by omega) (by kernel_rfl) fun b3 => ?_
  refine pairNew_c (ks := [if special then 2 else 1]) (i1 := 2) (i2 := 1) (i3 := 3) (i4 := 4) (by simp) (Rd.pt (i := 0) rfl 1 rfl) hgs hg2 hg4 rfl rfl rfl rfl fun b t => ?_
  refine run_to [mgrA b t (M.newM M.pairM [[], [true]] 1 [if special then 2 else 1])] (fun w hw => hw.head) ?_
  refine run_nx (.bool false) (fun w => pv_eqlPN un30) ?_
  try simp only [pureE, pureT, Nat.zero_add, Nat.reduceAdd, Bool.not_false, Bool.not_true]
  rw [show min ((ks.length : Nat) : Int) 50 = ((min ks.length 50 : Nat) : Int) by omega]
  refine run_rd_cutHi (l0 := []) un26 ty2 numV_len (by omega) hk (min ks.length 50) (by omega) fun lv' hl' => ?_
  have hxl : (ks.take (min ks.length 50)).length = min ks.length 50 := by rw [List.length_take]; omega
  have hx50 : (ks.take (min ks.length 50)).length ≤ 50 := by omega
  have hl : Rd W0 [] 1 lv' (ks.take (min ks.length 50)).length (numC (ks.take (min ks.length 50))) := by rw [hxl]; exact hl'
  clear hl'
  generalize ks.take (min ks.length 50) = xs at *
  obtain ⟨al, cl', rfl, _, _, _⟩ := hl.form
  have hok0 : M.Ok (M.newM M.pairM [[], [true]] 1 [if special then 2 else 1]) := pairM_ok _ _ _
  refine run_loop (σ := Nat × M.Mgr) (Inv := fun s => s.1 ≤ xs.length ∧ M.Ok s.2 ∧ (s.1 = 0 → s.2 = M.newM M.pairM [[], [true]] 1 [if special then 2 else 1]) ∧ (0 < s.1 → M.Kp special (xs.headD 0) (M.keepB special (xs.headD 0)) (s.1 + 1) s.2)) (J := fun s => [.bool special, .slice al xs.length cl', .bool true, Ptr b, IV s.1])
    (H := fun s => [mgrA b t s.2]) (μ := fun s => xs.length - s.1) (0, M.newM M.pairM [[], [true]] 1 [if special then 2 else 1]) ⟨by simp, hok0, fun _ => rfl, fun h0 => absurd h0 (by simp)⟩ rfl (fun w hw => hw) ?_
  rintro ⟨s, m⟩ e ⟨hs, hok, hs0, hs1⟩ he
  simp only [List.map_cons, List.map_nil, List.cons.injEq, and_true] at he hs hok hs0 hs1
  obtain ⟨e0, e1, e5, e7, e8⟩ := he
  unfold S6_l2
  simp only [e0, e1, e5, e7, e8]
  try simp only [pureE, pureT, Nat.zero_add, Nat.reduceAdd, Bool.not_false, Bool.not_true]
  have hevl : m.events.length = if s = 0 then 0 else s + 1 := by
    by_cases h0 : s = 0
    · rw [if_pos h0, hs0 h0]; rfl
    · rw [if_neg h0]; exact (hs1 (by omega)).events
  by_cases h6 : s < xs.length
  case neg =>
    rw [dec_f (show ¬ (s : Int) < (xs.length : Int) by omega)]
    try simp only [pureE, pureT, Nat.zero_add, Nat.reduceAdd, Bool.not_false, Bool.not_true]
    refine events_c (i := 0) rfl (by rw [hevl]; split <;> omega) fun v' => ?_
    refine run_row_rd 0 rfl fun hre => ?_
    obtain ⟨ae, ce, rfl, _, _, _⟩ := hre.form
    try simp only [pureE, pureT, Nat.zero_add, Nat.reduceAdd, Bool.not_false, Bool.not_true]
    have hse : s = xs.length := by omega
    have hfin : ((m.events.length : Nat) : Int) == IntKind.i64.wrap ((xs.length : Int) + min (xs.length : Int) 1) := by
      rw [wrN (x := (xs.length : Int) + min (xs.length : Int) 1) (xs.length + min xs.length 1) (by omega) (by omega), hevl]
      split <;> simp <;> omega
    rw [show (((m.events.length : Nat) : Int) == IntKind.i64.wrap ((xs.length : Int) + min (xs.length : Int) 1)) = true from hfin]
    exact h.of fun w hw => hw.nil
  rw [dec_t (show (s : Int) < (xs.length : Int) by omega)]
  try simp only [pureE, pureT, Nat.zero_add, Nat.reduceAdd, Bool.not_false, Bool.not_true]
  obtain ⟨x, hx⟩ : ∃ x, xs[s]? = some x := ⟨_, List.getElem?_eq_getElem h6⟩
  obtain ⟨x0, hx0⟩ : ∃ x0, xs[0]? = some x0 := ⟨_, List.getElem?_eq_getElem (by omega)⟩
  have hhd : xs.headD 0 = x0 := by
    cases xs with
    | nil => simp at hx0
    | cons y ys => simpa using hx0
  rw [hhd] at hs1
  refine run_rd_idx (l0 := []) un26 ty2 numV_len (by omega) hl s hx fun b6 o6 hc6 => ?_
  refine run_ld sc2 (hc6.mono fun w hw => hw.nil) ?_
  refine enter1_c (i := 0) rfl hok (by rw [hevl]; split <;> omega) fun b8 a8 c8 => ?_
  -- what the call tells
  obtain ⟨body, ent, charge, hres, hent, hch, hbody, hkp, hok'⟩ : ∃ body ent charge, (M.enterM m 1 [x]).1 = (body, ent, charge) ∧ ent = (!special || x == x0) ∧ charge = (if s = 0 then 8 else if ent then 0 else 50) ∧ (decide (0 < body.length) = ent) ∧
      M.Kp special x0 (M.keepB special x0) (s + 1 + 1) (M.enterM m 1 [x]).2 ∧ M.Ok (M.enterM m 1 [x]).2 := by
    have hpos := List.length_pos_iff.2 (keepB_ne special x0)
    have hok' := hok.enter 1 [x]
    by_cases h0 : s = 0
    · have hxx : x = x0 := by subst h0; rw [hx] at hx0; exact Option.some.inj hx0
      subst hxx
      rw [hs0 h0] at hok' ⊢
      obtain ⟨k1, k2⟩ := M.keeps_first special x
      subst h0
      exact ⟨_, _, _, k1, by simp, by simp, by simpa using hpos, k2, hok'⟩
    · obtain ⟨k1, k2⟩ := M.keeps_next (hs1 (by omega)) x
      cases hb : (!special || x == x0)
      · rw [hb] at k1
        exact ⟨_, _, _, k1, by simp, by simp [h0], by simp, k2, hok'⟩
      · rw [hb] at k1
        exact ⟨_, _, _, k1, by simp, by simp [h0], by simpa using hpos, k2, hok'⟩
  rw [hres]
  simp only
  generalize hm' : (M.enterM m 1 [x]).2 = m' at *
  try simp only [pureE, pureT, Nat.zero_add, Nat.reduceAdd, Bool.not_false, Bool.not_true]
  refine run_draw [] (fun w hw => hw.nil) ?_
  have step : Run W0 (row 51 3 (.slice a8 body.length c8) body.length (insC body) :: pt b8 2 [IV x] :: [mgrA b t m].set 0 (mgrA b t m')) (condS (.bool ((s : Int) == 0)) (S6_k3 (fun vs' w' => ∃ s' : Nat × M.Mgr, xs.length - s'.1 < xs.length - s ∧ (s'.1 ≤ xs.length ∧ M.Ok s'.2 ∧ (s'.1 = 0 → s'.2 = M.newM M.pairM [[], [true]] 1 [if special then 2 else 1]) ∧ (0 < s'.1 → M.Kp special (xs.headD 0) (M.keepB special (xs.headD 0)) (s'.1 + 1) s'.2)) ∧ [.bool special, .slice al xs.length cl', .bool true, Ptr b, IV (s'.1 : Int)] = vs' ∧ St W0 [mgrA b t s'.2] w')
        K pn (.bool special) (.slice al xs.length cl') (.bool true) (Ptr b) (IV s) (.slice a8 body.length c8) (.bool ent) (IV charge) (.bool ent) (IV 8))
      (S6_k3 (fun vs' w' => ∃ s' : Nat × M.Mgr, xs.length - s'.1 < xs.length - s ∧ (s'.1 ≤ xs.length ∧ M.Ok s'.2 ∧ (s'.1 = 0 → s'.2 = M.newM M.pairM [[], [true]] 1 [if special then 2 else 1]) ∧ (0 < s'.1 → M.Kp special (xs.headD 0) (M.keepB special (xs.headD 0)) (s'.1 + 1) s'.2)) ∧ [.bool special, .slice al xs.length cl', .bool true, Ptr b, IV (s'.1 : Int)] = vs' ∧ St W0 [mgrA b t s'.2] w')
        K pn (.bool special) (.slice al xs.length cl') (.bool true) (Ptr b) (IV s) (.slice a8 body.length c8) (.bool ent) (IV charge) (.bool ent) (IV 0))) := by
    have k4 : ∀ want : Int, want = charge → Run W0 (row 51 3 (.slice a8 body.length c8) body.length (insC body) :: pt b8 2 [IV x] :: [mgrA b t m].set 0 (mgrA b t m')) (S6_k4 (fun vs' w' => ∃ s' : Nat × M.Mgr, xs.length - s'.1 < xs.length - s ∧ (s'.1 ≤ xs.length ∧ M.Ok s'.2 ∧ (s'.1 = 0 → s'.2 = M.newM M.pairM [[], [true]] 1 [if special then 2 else 1]) ∧ (0 < s'.1 → M.Kp special (xs.headD 0) (M.keepB special (xs.headD 0)) (s'.1 + 1) s'.2)) ∧ [.bool special, .slice al xs.length cl', .bool true, Ptr b, IV (s'.1 : Int)] = vs' ∧ St W0 [mgrA b t s'.2] w')
        K pn (.bool special) (.slice al xs.length cl') (.bool true) (Ptr b) (IV s) (.slice a8 body.length c8) (.bool ent) (IV charge) (.bool ent) (IV want)) := by
      rintro want rfl
      unfold S6_k4
      refine run_nx (.bool !(ent == ent)) (fun w => pv_neqB un4) ?_
      rw [show (!(ent == ent)) = false from by simp]
      try simp only [pureE, pureT, Nat.zero_add, Nat.reduceAdd, Bool.not_false, Bool.not_true]
      rw [show (want != want) = false from by simp]
      try simp only [pureE, pureT, Nat.zero_add, Nat.reduceAdd, Bool.not_false, Bool.not_true]
      rw [show decide ((0 : Int) < (body.length : Int)) = ent from by rw [← hbody]; simp]
      refine run_nx (.bool !(ent == ent)) (fun w => pv_neqB un4) ?_
      rw [show (!(ent == ent)) = false from by simp]
      try simp only [pureE, pureT, Nat.zero_add, Nat.reduceAdd, Bool.not_false, Bool.not_true]
      rw [wrN (x := (s : Int) + 1) (s + 1) (by omega) (by omega)]
      exact fun w hw => ⟨(s + 1, m'), by simp only; omega, ⟨by simp only; omega, hok', fun h0 => absurd h0 (by simp), fun _ => by rw [hhd]; exact hkp⟩, rfl, hw.tail.tail⟩
    by_cases h0 : s = 0
    · subst h0
      rw [show (((0 : Nat) : Int) == 0) = true from rfl]
      try simp only [pureE, pureT, Nat.zero_add, Nat.reduceAdd, Bool.not_false, Bool.not_true]
      unfold S6_k3
      have hxx : x = x0 := by rw [hx] at hx0; exact Option.some.inj hx0
      have he1 : ent = true := by rw [hent, hxx]; simp
      simp only [if_true] at hch
      have k5 := k4 8 hch.symm
      rw [he1] at k5 ⊢
      try simp only [pureE, pureT, Nat.zero_add, Nat.reduceAdd, Bool.not_false, Bool.not_true]
      exact k5
    · rw [show (((s : Nat) : Int) == 0) = false from by simp; omega]
      try simp only [pureE, pureT, Nat.zero_add, Nat.reduceAdd, Bool.not_false, Bool.not_true]
      unfold S6_k3
      rw [if_neg h0] at hch
      cases hen : ent
      · rw [hen] at hch k4
        try simp only [pureE, pureT, Nat.zero_add, Nat.reduceAdd, Bool.not_false, Bool.not_true]
        exact k4 50 hch.symm
      · rw [hen] at hch k4
        try simp only [pureE, pureT, Nat.zero_add, Nat.reduceAdd, Bool.not_false, Bool.not_true]
        exact k4 0 hch.symm
  cases special
  · rw [Bool.not_false, Bool.true_or] at hent
    subst hent
    try simp only [pureE, pureT, Nat.zero_add, Nat.reduceAdd, Bool.not_false, Bool.not_true]
    exact step
  · try simp only [pureE, pureT, Nat.zero_add, Nat.reduceAdd, Bool.not_false, Bool.not_true]
    refine run_rd_idxP (l0 := []) un26 ty2 numV_len (by omega) hl s hx fun b9 o9 hc9 => ?_
    refine take_ld sc2 hc9 ?_
    refine run_rd_idxP (l0 := []) un26 ty2 numV_len (by omega) hl 0 hx0 fun b10 o10 hc10 => ?_
    refine take_ld sc2 hc10 ?_
    try simp only [pureE, pureT, Nat.zero_add, Nat.reduceAdd, Bool.not_false, Bool.not_true]
    rw [Bool.not_true, Bool.false_or] at hent
    rw [← hent]
    exact step
theorem keeps_c {lv : Value} {ks : List Int} {special : Bool} (g : Glb W0) (hk : Rd W0 [] 1 lv ks.length (numC ks)) (h : Run W0 [] (K (.bool true))) : Run W0 [] (callS P 6 #[.bool special, lv] K pn) := by
  refine r6 ?_
  unfold S6
  refine shown_c g ?_
  cases special
  · try simp only [pureE, pureT, Nat.zero_add, Nat.reduceAdd, Bool.not_false, Bool.not_true]
    exact keeps_k false hk h
  · try simp only [pureE, pureT, Nat.zero_add, Nat.reduceAdd, Bool.not_false, Bool.not_true]
    exact keeps_k true hk h
end
end Go.Proofs.YtkonigmefmgepaaDoor
