/- Contracts: the document's manager compiles a function (own work). -/
import Derived.Test.YtkonigmefmgepaaGreatDoorP
namespace Go.Proofs.YtkonigmefmgepaaGreatDoor
open Go.RowKit
set_option linter.unusedVariables false
set_option linter.unusedSimpArgs false

def entO (fn : Nat) (args : List Int) (o : Option Nat) : M.Ent := match o with
  | some i => ⟨fn, [], true, i, M.argR args i⟩
  | none => ⟨fn, [], false, 0, 0⟩
section
variable {W0 : World} {l : List As} {K : Value → C} {pn : Pn}

theorem argR_R {args : List Int} (h : ∀ a ∈ args, M.R a) (i : Int) : M.R (M.argR args i) := by
  unfold M.argR
  cases hq : args[i.toNat]? with
  | none => exact M.R0
  | some v => exact h v (List.mem_of_getElem? hq)

set_option maxHeartbeats 1600000 in
theorem compileR_c {b fn m : Nat} {pick : Int} {av : Value} {s : M.RM} {x : RX} {f : M.Fn} {args : List Int} (hf : RFacts W0 s x) (he : s.events.length ≤ 4294967000) (hn : s.cache.length ≤ 4294000) (hcap : 1 ≤ s.cap) (hnd : (s.cache.map (·.fn)).Nodup)
    (hfn : s.fns[fn]? = some f) (hp : 0 ≤ f.params ∧ f.params ≤ 8) (hR : ∀ y ∈ f.l, M.RI y) (hlen : f.l.length ≤ 4294967296) (ha : Rd W0 [] 1 av m (numC args)) (hA : ∀ a ∈ args, M.R a)
    (h : Run W0 (refA W0 b (M.putR (M.noteR s 1 fn) (M.entR s f fn pick args)) :: l) (K (.tuple #[]))) : Run W0 (refPs W0 b s x ++ l) (callS P 28 #[Ptr b, IV fn, IV pick, av] K pn) := by
  refine r28 ?_
  unfold S28
  obtain ⟨g, hg, hgf⟩ : ∃ g, x.gs[fn]? = some g ∧ g.1 = f := by
    have := hf.fns
    rw [← this, List.getElem?_map] at hfn
    cases hq : x.gs[fn]? with
    | none => rw [hq] at hfn; simp at hfn
    | some g => rw [hq] at hfn; simp only [Option.map_some, Option.some.injEq] at hfn; exact ⟨g, rfl, hfn⟩
  have hfnl : fn < x.gs.length := (List.getElem?_eq_some_iff.1 hg).1
  have hgin := hf.ga g (List.mem_of_getElem? hg)
  refine run_arr (j := 4) rfl fun harr => ?_
  have hform := (harr _ hgin).form
  clear harr
  obtain ⟨gf, gv⟩ := g
  simp only at hgf hgin hform
  subst hgf
  obtain ⟨ga, gc, rfl, _, _, _⟩ := hform
  obtain ⟨p, hpp⟩ : ∃ p : Nat, gf.params = p := ⟨gf.params.toNat, by omega⟩
  have hp8 : p ≤ 8 := by omega
  try simp only [pureE, pureT, Nat.zero_add, Nat.reduceAdd, Bool.not_false, Bool.not_true]
  refine run_ld sc34 (cl1 (i := 0) rfl rfl) ?_
  refine run_row_rd 1 rfl fun hrl => ?_
  refine run_rd_idx un34 ty74 fnG_len (by omega) hrl fn hg fun b2 o2 hc2 => ?_
  refine run_lda ag74 ty74 rfl hc2 ?_
  refine run_alloc ty74 fun b8 => ?_
  refine run_st ty74 (i := 0) rfl rfl (by simp [fnG, fnV, Value.cells, Value.oneCell']) (by simp [Value.cells]) ?_
  refine run_nx (.agg #[IV fn, .slice none 0 0, .bool false, IV 0, IV 0]) (fun w => by kernel_rfl) ?_
  refine run_alloc ty92 fun b9 => ?_
  refine run_st ty92 (i := 0) rfl rfl (by simp [Value.cells, Value.oneCell']) (by simp [Value.cells]) ?_
  refine run_to (pt b9 92 (entV (entO fn args none, .slice none 0 0)) :: pt b8 74 (fnG (gf, .slice ga gf.l.length gc)) :: (refPs W0 b s x ++ l)) (fun w hw => hw) ?_
  try simp only [pureE, pureT, Nat.zero_add, Nat.reduceAdd, Bool.not_false, Bool.not_true]
  refine run_ld sc3 (cl1 (i := 1) rfl rfl) ?_
  try simp only [pureE, pureT, Nat.zero_add, Nat.reduceAdd, Bool.not_false, Bool.not_true]
  rw [show IntKind.i64.wrap (gf.params - 1) = (p : Int) - 1 - ((0 : Nat) : Int) from by rw [wr_in (by omega)]; omega]
  obtain ⟨fo', hfo'⟩ : ∃ fo' : Nat → Option Nat, fo' = fun t => if pick == 2 then M.fo (M.openM s.pub fn) t (p - t) else none := ⟨_, rfl⟩
  have hfo0 : fo' 0 = none := by rw [hfo']; simp [M.fo]
  refine run_loop (Inv := fun t : Nat => t ≤ p) (J := fun t => [Ptr b, IV fn, IV pick, av, Ptr b8, Ptr b9, IV ((p : Int) - 1 - (t : Int))])
    (H := fun t => pt b9 92 (entV (entO fn args (fo' t), .slice none 0 0)) :: pt b8 74 (fnG (gf, .slice ga gf.l.length gc)) :: (refPs W0 b s x ++ l)) (μ := fun t => p - t) 0 (by omega) rfl (fun w hw => by rw [hfo0]; exact hw) ?_
  intro t e ht he'
  simp only [List.map_cons, List.map_nil, List.cons.injEq, and_true] at he'
  obtain ⟨e0, e1, e2, e3, e8, e9, e10⟩ := he'
  unfold S28_l1
  simp only [e0, e1, e2, e3, e8, e9, e10]
  try simp only [pureE, pureT, Nat.zero_add, Nat.reduceAdd, Bool.not_false, Bool.not_true]
  by_cases hlt : t < p
  · rw [dec_t (show (0 : Int) ≤ (p : Int) - 1 - (t : Int) by omega)]
    try simp only [pureE, pureT, Nat.zero_add, Nat.reduceAdd, Bool.not_false, Bool.not_true]
    obtain ⟨i, hi⟩ : ∃ i : Nat, i = p - (t + 1) := ⟨_, rfl⟩
    rw [show (p : Int) - 1 - (t : Int) = (i : Int) by omega]
    have hfo1 : fo' (t + 1) = if pick == 2 && M.openM s.pub fn i then some i else fo' t := by
      rw [hfo']
      simp only
      rw [show p - t = i + 1 by omega, ← hi]
      cases pick == 2
      · rfl
      · simp only [if_true, Bool.true_and, M.fo]
    refine openR_c (j := 2) rfl hf ?_
    have next : ∀ cs, cs = entV (entO fn args (fo' (t + 1)), .slice none 0 0) → Run W0 (pt b9 92 cs :: pt b8 74 (fnG (gf, .slice ga gf.l.length gc)) :: (refPs W0 b s x ++ l))
        (S28_k2 (fun vs' w' => ∃ t', p - t' < p - t ∧ t' ≤ p ∧ [Ptr b, IV fn, IV pick, av, Ptr b8, Ptr b9, IV ((p : Int) - 1 - (t' : Int))] = vs' ∧ St W0 (pt b9 92 (entV (entO fn args (fo' t'), .slice none 0 0)) :: pt b8 74 (fnG (gf, .slice ga gf.l.length gc)) :: (refPs W0 b s x ++ l)) w')
          K pn (Ptr b) (IV fn) (IV pick) av (Ptr b8) (Ptr b9) (IV i)) := by
      rintro cs rfl
      unfold S28_k2
      try simp only [pureE, pureT, Nat.zero_add, Nat.reduceAdd, Bool.not_false, Bool.not_true]
      rw [show IntKind.i64.wrap ((i : Int) - 1) = (p : Int) - 1 - ((t + 1 : Nat) : Int) from by rw [wr_in (by omega)]; omega]
      exact fun w hw => ⟨t + 1, by omega, by omega, rfl, hw⟩
    try simp only [pureE, pureT, Nat.zero_add, Nat.reduceAdd, Bool.not_false, Bool.not_true]
    cases h2 : pick == 2
    · rw [h2] at hfo1
      try simp only [pureE, pureT, Nat.zero_add, Nat.reduceAdd, Bool.not_false, Bool.not_true]
      exact next _ (by rw [hfo1]; rfl)
    rw [h2] at hfo1
    try simp only [pureE, pureT, Nat.zero_add, Nat.reduceAdd, Bool.not_false, Bool.not_true]
    cases ho : M.openM s.pub fn i
    · rw [ho] at hfo1
      try simp only [pureE, pureT, Nat.zero_add, Nat.reduceAdd, Bool.not_false, Bool.not_true]
      exact next _ (by rw [hfo1]; rfl)
    rw [ho] at hfo1
    try simp only [pureE, pureT, Nat.zero_add, Nat.reduceAdd, Bool.not_false, Bool.not_true]
    refine run_st ty4 (i := 0) rfl rfl (by simp [Value.cells, Value.oneCell']) (by simp [entV]) ?_
    refine run_st ty3 (i := 0) rfl rfl (by simp [Value.cells, Value.oneCell']) (by simp [entV, splice, Value.cells]) ?_
    refine argR_c (args := args) (ha.mono fun w hw => hw.nil) ?_
    try simp only [pureE, pureT, Nat.zero_add, Nat.reduceAdd, Bool.not_false, Bool.not_true]
    refine run_st ty2 (i := 0) rfl rfl (by simp [Value.cells, Value.oneCell']) (by simp [entV, splice, Value.cells]) ?_
    refine run_to _ (fun w hw => ?_) (next _ rfl)
    rw [hfo1]
    cases hz : fo' t <;> (rw [hz] at hw; exact hw)
  · rw [dec_f (show ¬ (0 : Int) ≤ (p : Int) - 1 - (t : Int) by omega)]
    try simp only [pureE, pureT, Nat.zero_add, Nat.reduceAdd, Bool.not_false, Bool.not_true]
    have htp : t = p := by omega
    subst htp
    have hent : M.entR s gf fn pick args = match fo' t with
        | some i => ⟨fn, M.spec i (M.argR args i) gf.params gf.l, true, i, M.argR args i⟩
        | none => ⟨fn, M.fold gf.l, false, 0, 0⟩ := by
      unfold M.entR
      rw [hfo', hpp, Int.toNat_natCast]
      simp only [Nat.sub_self]
      generalize (if (pick == 2) = true then M.fo (M.openM s.pub fn) t 0 else none) = z
      cases z <;> rfl
    rw [hent] at h
    have hform2 : ∀ {v : Value} {ys : List M.Ins} {c : C}, (∀ a n c', v = .slice a n c' → Run W0 (row 75 3 v ys.length (insC ys) :: pt b9 92 (entV (entO fn args (fo' t), .slice none 0 0)) :: pt b8 74 (fnG (gf, .slice ga gf.l.length gc)) :: (refPs W0 b s x ++ l)) c) → Run W0 (row 75 3 v ys.length (insC ys) :: pt b9 92 (entV (entO fn args (fo' t), .slice none 0 0)) :: pt b8 74 (fnG (gf, .slice ga gf.l.length gc)) :: (refPs W0 b s x ++ l)) c := by
      intro v ys c hc
      refine run_row_rd 0 rfl fun hrd => ?_
      obtain ⟨a, c', hv, _⟩ := hrd.form
      exact hc a _ c' hv
    -- the body is laid in, and the entry comes in
    have put : ∀ (x' : RX) (v : Value) (e : M.Ent), RFacts W0 s x' → (∃ a n c, v = .slice a n c) → (v, e.body) ∈ x'.ar → Run W0 (refA W0 b (M.putR (M.noteR s 1 fn) e) :: l) (K (.tuple #[])) →
        Run W0 (pt b9 92 (entV (e, v)) :: (refPs W0 b s x' ++ l)) (S28_k3 K pn (Ptr b) (IV fn) (Ptr b9)) := fun x' v e hf' hv hin hk =>
      run_to (refPs W0 b s x' ++ pt b9 92 (entV (e, v)) :: l) (fun w hw => hw.back) (k3_c hf' he hn hcap hnd hv hin hk)
    cases hz : fo' t with
    | some i =>
      rw [hz] at h hform2
      simp only at h
      refine run_ld (v := .bool true) sc4 (cl1 (i := 0) rfl rfl) ?_
      try simp only [pureE, pureT, Nat.zero_add, Nat.reduceAdd, Bool.not_false, Bool.not_true]
      refine run_lda ag74 ty74 (xs := fnG (gf, .slice ga gf.l.length gc)) rfl (cl_all (i := 1) rfl) ?_
      try simp only [pureE, pureT, Nat.zero_add, Nat.reduceAdd, Bool.not_false, Bool.not_true]
      refine run_ld (v := IV i) sc3 (cl1 (i := 0) rfl rfl) ?_
      try simp only [pureE, pureT, Nat.zero_add, Nat.reduceAdd, Bool.not_false, Bool.not_true]
      refine run_ld (v := IV (M.argR args i)) sc2 (cl1 (i := 0) rfl rfl) ?_
      refine run_arr (j := 6) rfl fun harr => ?_
      refine forR_c (f := gf) (harr _ hgin) hlen hR (argR_R hA _) fun v' => ?_
      refine hform2 fun a n c hv => ?_
      subst hv
      try simp only [pureE, pureT, Nat.zero_add, Nat.reduceAdd, Bool.not_false, Bool.not_true]
      refine run_st ty41 (i := 1) rfl rfl (by simp [Value.cells, Value.oneCell']) (by simp [entV]) ?_
      refine run_to (row 75 3 (.slice a n c) (M.spec i (M.argR args i) gf.params gf.l).length (insC (M.spec i (M.argR args i) gf.params gf.l)) :: (refPs W0 b s x ++ pt b9 92 (entV (⟨fn, M.spec i (M.argR args i) gf.params gf.l, true, i, M.argR args i⟩, .slice a n c)) :: l)) (fun w hw => ?_) ?_
      · have g1 : St W0 (row 75 3 (.slice a n c) (M.spec i (M.argR args i) gf.params gf.l).length (insC (M.spec i (M.argR args i) gf.params gf.l)) :: pt b9 92 (entV (⟨fn, M.spec i (M.argR args i) gf.params gf.l, true, i, M.argR args i⟩, .slice a n c)) :: pt b8 74 (fnG (gf, .slice ga gf.l.length gc)) :: (refPs W0 b s x ++ l)) w := hw
        have g2 := g1.erase 2
        exact (((((g2.front 7).front 7).front 7).front 7).front 7).front 7 |>.front 6
      refine run_join hf fun hf' => ?_
      exact k3_c hf' he hn hcap hnd ⟨a, n, c, rfl⟩ (List.mem_append_right _ (by simp)) h
    | none =>
      rw [hz] at h hform2
      simp only at h
      refine run_ld (v := .bool false) sc4 (cl1 (i := 0) rfl rfl) ?_
      try simp only [pureE, pureT, Nat.zero_add, Nat.reduceAdd, Bool.not_false, Bool.not_true]
      refine run_ld sc41 (cl1 (i := 1) rfl rfl) ?_
      refine run_arr (j := 6) rfl fun harr => ?_
      refine foldR_c (harr _ hgin) hlen hR (fun v' => ?_) fun hold => ?_
      · refine hform2 fun a n c hv => ?_
        subst hv
        try simp only [pureE, pureT, Nat.zero_add, Nat.reduceAdd, Bool.not_false, Bool.not_true]
        refine run_st ty41 (i := 1) rfl rfl (by simp [Value.cells, Value.oneCell']) (by simp [entV]) ?_
        refine run_to (row 75 3 (.slice a n c) (M.fold gf.l).length (insC (M.fold gf.l)) :: (refPs W0 b s x ++ pt b9 92 (entV (⟨fn, M.fold gf.l, false, 0, 0⟩, .slice a n c)) :: l)) (fun w hw => ?_) ?_
        · have g1 : St W0 (row 75 3 (.slice a n c) (M.fold gf.l).length (insC (M.fold gf.l)) :: pt b9 92 (entV (⟨fn, M.fold gf.l, false, 0, 0⟩, .slice a n c)) :: pt b8 74 (fnG (gf, .slice ga gf.l.length gc)) :: (refPs W0 b s x ++ l)) w := hw
          have g2 := g1.erase 2
          exact (((((g2.front 7).front 7).front 7).front 7).front 7).front 7 |>.front 6
        refine run_join hf fun hf' => ?_
        exact k3_c hf' he hn hcap hnd ⟨a, n, c, rfl⟩ (List.mem_append_right _ (by simp)) h
      · try simp only [pureE, pureT, Nat.zero_add, Nat.reduceAdd, Bool.not_false, Bool.not_true]
        refine run_st ty41 (i := 0) rfl rfl (by simp [Value.cells, Value.oneCell']) (by simp [entV]) ?_
        refine run_to (pt b9 92 (entV (⟨fn, M.fold gf.l, false, 0, 0⟩, .slice ga gf.l.length gc)) :: (refPs W0 b s x ++ l)) (fun w hw => ?_) (put x _ _ hf ⟨_, _, _, rfl⟩ (by rw [hold]; exact hgin) h)
        exact St.erase hw 1
end
end Go.Proofs.YtkonigmefmgepaaGreatDoor
