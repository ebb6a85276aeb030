/- Contracts: compiling (own work). -/
import Derived.Test.YtkonigmefmgepaaDoorW12
namespace Go.Proofs.YtkonigmefmgepaaDoor
open Go.RowKit
set_option linter.unusedVariables false
set_option linter.unusedSimpArgs false

theorem Rd.one {W0 : World} {l : List As} {sz v n xs} (h : Rd W0 l sz v n xs) : v.oneCell' = true ∧ v.cells = #[v] := by
  obtain ⟨a, c, rfl, _⟩ := h.form
  exact ⟨rfl, rfl⟩

section
variable {W0 : World} {l : List As} {K : Value → C} {pn : Pn}

theorem body_c {i b fn : Nat} {t : MS} {s : M.Mgr} {f : M.Fn} {p : M.PFn} {pick : Int} (hi : l[i]? = some (mgrA b t s)) (hf : s.fns[fn]? = some f) (hp : s.prof[fn]? = some p) (hpp : p.params = M.clamp8 f.params) (hn : f.l.length ≤ 4294967296)
    (h : ∀ v', Run W0 (row 51 3 v' (M.bodyM s fn pick).1.length (insC (M.bodyM s fn pick).1) :: l.set i (mgrA b t (M.bodyM s fn pick).2)) (K v')) : Run W0 l (callS P 38 #[Ptr b, IV fn, IV pick] K pn) := by
  refine r38 ?_
  unfold S38
  have hfn := (List.getElem?_eq_some_iff.1 hf).1
  refine mgr_fns hi fun hfs _ hrd => ?_
  have hfl : t.fs.length = s.fns.length := by rw [← hfs, List.length_map]
  obtain ⟨e, he⟩ : ∃ e, t.fs[fn]? = some e := ⟨_, List.getElem?_eq_getElem (by omega)⟩
  have hef : e.1 = f := by
    have : s.fns[fn]? = some e.1 := by rw [← hfs, List.getElem?_map, he]; rfl
    rw [hf] at this
    exact (Option.some.inj this).symm
  refine mgr_fn hi he fun hrb => ?_
  obtain ⟨ho1, ho2⟩ := hrb.one
  try simp only [pureE, pureT, Nat.zero_add, Nat.reduceAdd, Bool.not_false, Bool.not_true]
  refine run_ld sc22 (mgr_fld hi fun x => rfl) ?_
  refine run_rd_idx un22 ty46 fnG_len (by omega) hrd fn he fun b2 o2 hc2 => ?_
  refine run_lda ag46 ty46 rfl hc2 ?_
  refine run_alloc ty46 fun b7 => ?_
  refine run_st ty46 (i := 0) rfl rfl (fun u hu => fnG_one e ho1 u (by simpa [Value.cells] using hu)) (by simp [Value.cells]) ?_
  refine run_to (pt b7 46 (fnG e) :: l) (fun w hw => hw) ?_
  have hi1 : (pt b7 46 (fnG e) :: l)[i + 1]? = some (mgrA b t s) := by simpa using hi
  refine params_c hi1 hfn ?_
  have hk8 : M.paramsM s fn ≤ 8 := by unfold M.paramsM M.clamp8; split <;> omega
  have hkp : ((M.paramsM s fn : Nat) : Int) = M.clamp8 f.params := by unfold M.paramsM M.clamp8; rw [hf]; simp only; omega
  unfold M.bodyM at h
  rw [hf] at h
  unfold M.forM_ at h
  generalize hkk : M.paramsM s fn = k at *
  refine run_loop (Inv := fun q : Nat => q ≤ k ∧ ∀ j, j < q → (pick == 2) = true → M.openM s.pub fn j = false) (J := fun q => [Ptr b, IV fn, IV pick, Ptr b7, IV k, IV q]) (H := fun q => pt b7 46 (fnG e) :: l) (μ := fun q => k - q) 0 ⟨by omega, fun j hj => by omega⟩ rfl (fun w hw => hw) ?_
  rintro q en ⟨hq, hno⟩ heq
  simp only [List.map_cons, List.map_nil, List.cons.injEq, and_true] at heq
  obtain ⟨e0, e1, e2, e7, e21, e22⟩ := heq
  unfold S38_l1
  simp only [e0, e1, e2, e7, e21, e22]
  try simp only [pureE, pureT, Nat.zero_add, Nat.reduceAdd, Bool.not_false, Bool.not_true]
  by_cases hlt : q < k
  · rw [dec_t (show (q : Int) < k by omega)]
    try simp only [pureE, pureT, Nat.zero_add, Nat.reduceAdd, Bool.not_false, Bool.not_true]
    cases h2 : pick == 2
    · try simp only [pureE, pureT, Nat.zero_add, Nat.reduceAdd, Bool.not_false, Bool.not_true]
      rw [wrN (x := (q : Int) + 1) (q + 1) (by omega) (by omega)]
      exact fun w hw => ⟨q + 1, by omega, ⟨by omega, fun j hj hp2 => absurd hp2 (by simp)⟩, rfl, hw⟩
    try simp only [pureE, pureT, Nat.zero_add, Nat.reduceAdd, Bool.not_false, Bool.not_true]
    refine open_c hi1 ?_
    cases ho : M.openM s.pub fn q
    · try simp only [pureE, pureT, Nat.zero_add, Nat.reduceAdd, Bool.not_false, Bool.not_true]
      rw [wrN (x := (q : Int) + 1) (q + 1) (by omega) (by omega)]
      refine fun w hw => ⟨q + 1, by omega, ⟨by omega, fun j hj hp2 => ?_⟩, rfl, hw⟩
      rcases Nat.lt_or_ge j q with h5 | h5
      · exact hno j h5 h2
      · obtain rfl : j = q := by omega
        exact ho
    try simp only [pureE, pureT, Nat.zero_add, Nat.reduceAdd, Bool.not_false, Bool.not_true]
    have hfo : M.fo (M.openM s.pub fn) k 0 = some q := by
      rw [M.fo_skip hq (fun j hj => hno j hj h2)]
      obtain ⟨d, hd⟩ : ∃ d, k - q = d + 1 := ⟨k - q - 1, by omega⟩
      rw [hd, M.fo, ho]; rfl
    rw [if_pos h2, hfo] at h
    refine run_ld sc58 (mgr_fld hi1 fun x => rfl) ?_
    refine run_open (i + 1) hi1 fun g => ?_
    refine run_pur 10 rfl fun hg => ?_
    refine value_c (i := 7) rfl hp (by rw [hpp, ← hkp]; omega) (by omega) ?_
    try simp only [pureE, pureT, Nat.zero_add, Nat.reduceAdd, Bool.not_false, Bool.not_true]
    refine run_ld sc57 (cl1 (i := 0) rfl rfl) ?_
    refine run_nx (.agg #[IV q, IV (p.runs q).1]) (fun w => by kernel_rfl) ?_
    refine run_mapUpdate un57 un3 (i := 8) rfl fun clk' => ?_
    refine run_setPur 10 ((ggset fn ((q : Int), (p.runs q).1) g.clk g.gg).map ggMod = M.aset fn ((q : Int), (p.runs q).1) s.guards ∧ t.fs.map (·.1) = s.fns ∧ t.ps.map (·.2) = s.pub) rfl ⟨by rw [← hg.1, ggaset], hg.2⟩ ?_
    refine run_to (mgrPs b t { s with guards := M.aset fn ((q : Int), (p.runs q).1) s.guards } { g with clk := clk', gg := ggset fn ((q : Int), (p.runs q).1) g.clk g.gg } ++ (pt b7 46 (fnG e) :: l).eraseIdx (i + 1)) (fun w hw => ?_) (run_shut _ (i + 1) _ hi1 ?_)
    · unfold mgrPs
      simp only
      rw [← ggmset]
      exact hw
    refine run_to (pt b7 46 (fnG e) :: l.set i (mgrA b t { s with guards := M.aset fn ((q : Int), (p.runs q).1) s.guards })) (fun w hw => hw) ?_
    refine run_lda ag46 ty46 (xs := fnG e) rfl (cl_all (i := 0) rfl) ?_
    refine mgr_fn (i := i + 1) (s := { s with guards := M.aset fn ((q : Int), (p.runs q).1) s.guards }) (by simpa using set_get hi) he fun hrb2 => ?_
    have hrun : M.runM s fn q = (p.runs q).1 := by unfold M.runM; rw [hp]
    simp only at h
    rw [hrun] at h
    refine for_c (f := e.1) hrb2 (by rw [hef]; exact hn) fun v' => ?_
    rw [hef]
    exact run_erase 1 (h v')
  · rw [dec_f (show ¬ (q : Int) < k by omega)]
    try simp only [pureE, pureT, Nat.zero_add, Nat.reduceAdd, Bool.not_false, Bool.not_true]
    have hnone : (if (pick == 2) = true then M.fo (M.openM s.pub fn) k 0 else none) = none := by
      split
      · rename_i h2
        rw [M.fo_skip hq (fun j hj => hno j hj h2), show k - q = 0 by omega]; rfl
      · rfl
    rw [hnone] at h
    refine run_lda ag46 ty46 (xs := fnG e) rfl (cl_all (i := 0) rfl) ?_
    refine plain_c (f := e.1) (hrb.mono fun _ hw => hw.tail) (by rw [hef]; exact hn) fun v' => ?_
    rw [hef]
    simp only at h
    have := h v'
    rw [row_set_id i hi] at this
    exact run_erase 1 this

theorem compiles_k {i b fn : Nat} {t : MS} {s : M.Mgr} (hi : l[i]? = some (mgrA b t s)) (hfn : fn < s.fns.length) (h : Run W0 l (K (IV (M.w64 (2 * (M.lenM s fn : Nat)))))) : Run W0 l (S26_k1 K pn (Ptr b) (IV fn)) := by
  unfold S26_k1
  refine mgr_fns hi fun hfs _ hrd => ?_
  have hfl : t.fs.length = s.fns.length := by rw [← hfs, List.length_map]
  obtain ⟨e, he⟩ : ∃ e, t.fs[fn]? = some e := ⟨_, List.getElem?_eq_getElem (by omega)⟩
  have hef : s.fns[fn]? = some e.1 := by rw [← hfs, List.getElem?_map, he]; rfl
  refine mgr_fn hi he fun hrb => ?_
  obtain ⟨a, c, hv, _, _, _⟩ := hrb.form
  try simp only [pureE, pureT, Nat.zero_add, Nat.reduceAdd, Bool.not_false, Bool.not_true]
  refine run_ld sc22 (mgr_fld hi fun x => rfl) ?_
  refine run_rd_idx un22 ty46 fnG_len (by omega) hrd fn he fun b2 o2 hc2 => ?_
  try simp only [pureE, pureT, Nat.zero_add, Nat.reduceAdd, Bool.not_false, Bool.not_true]
  refine run_ld sc35 (hc2.fld (k := 4) rfl) ?_
  rw [hv]
  try simp only [pureE, pureT, Nat.zero_add, Nat.reduceAdd, Bool.not_false, Bool.not_true]
  unfold M.lenM at h
  rw [hef] at h
  exact h

theorem compiles_c {i b fn : Nat} {t : MS} {s : M.Mgr} {f : M.Fn} {p : M.PFn} {pick : Int} (hi : l[i]? = some (mgrA b t s)) (hf : s.fns[fn]? = some f) (hp : s.prof[fn]? = some p) (hpp : p.params = M.clamp8 f.params) (hn : f.l.length ≤ 4294967296)
    (hev : s.events.length ≤ 4294967294) (hord : s.cache.order.length ≤ 4294967295) (hcap : 1 ≤ s.cache.cap)
    (h : Run W0 (l.set i (mgrA b t (M.compilesM s fn pick))) (K (IV (M.w64 (2 * (M.lenM s fn : Nat)))))) : Run W0 l (callS P 26 #[Ptr b, IV fn, IV pick] K pn) := by
  refine r26 ?_
  unfold S26
  have hfn := (List.getElem?_eq_some_iff.1 hf).1
  refine body_c hi hf hp hpp hn fun v' => ?_
  have hlenB : (M.bodyM s fn pick).1.length ≤ 4294967296 := by
    unfold M.bodyM
    rw [hf]
    simp only
    split
    · exact Nat.le_trans (M.spec_len _ _ _ _) hn
    · exact Nat.le_trans (M.fold_len _) hn
  have hs1 : (M.bodyM s fn pick).2.cache = s.cache ∧ (M.bodyM s fn pick).2.events = s.events ∧ (M.bodyM s fn pick).2.fns = s.fns := by
    unfold M.bodyM
    rw [hf]
    simp only
    split <;> exact ⟨rfl, rfl, rfl⟩
  unfold M.compilesM at h
  generalize hB : (M.bodyM s fn pick).1 = B at *
  generalize hS1 : (M.bodyM s fn pick).2 = s1 at *
  obtain ⟨hc1, he1, hf1⟩ := hs1
  have hi1 : (row 51 3 v' B.length (insC B) :: l.set i (mgrA b t s1))[i + 1]? = some (mgrA b t s1) := by simpa using set_get hi
  refine note_c hi1 (by rw [he1]; omega) ?_
  refine run_to (row 51 3 v' B.length (insC B) :: l.set i (mgrA b t (M.noteM s1 1 fn))) (fun w hw => by simpa [List.set_set] using hw) ?_
  have hi2 : (row 51 3 v' B.length (insC B) :: l.set i (mgrA b t (M.noteM s1 1 fn)))[i + 1]? = some (mgrA b t (M.noteM s1 1 fn)) := by simpa using set_get hi
  try simp only [pureE, pureT, Nat.zero_add, Nat.reduceAdd, Bool.not_false, Bool.not_true]
  refine run_ld sc54 (mgr_fld hi2 fun x => rfl) ?_
  refine run_open (i + 1) hi2 fun g => ?_
  have hcN : (M.noteM s1 1 fn).cache = s.cache := hc1
  refine run_row_rd2 11 ((mgrPs b t (M.noteM s1 1 fn) g ++ (row 51 3 v' B.length (insC B) :: l.set i (mgrA b t (M.noteM s1 1 fn))).eraseIdx (i + 1)).eraseIdx 1) 10 rfl rfl fun hrB => ?_
  refine put_c (i := 1) (s := (M.noteM s1 1 fn).cache) rfl (by rw [hcN]; exact hord) (by rw [hcN]; exact hcap) hrB hlenB ?_
  refine run_to (mgrPs b t { (M.noteM s1 1 fn) with cache := ((M.noteM s1 1 fn).cache.put fn B).2 } g ++ (row 51 3 v' B.length (insC B) :: l.set i (mgrA b t (M.noteM s1 1 fn))).eraseIdx (i + 1)) (fun w hw => hw) (run_shut _ (i + 1) _ hi2 ?_)
  refine run_drop ?_
  rw [List.set_set]
  unfold M.putM at h
  have hsz : ∀ (s' : M.Mgr), s'.fns = s.fns → M.lenM s' fn = M.lenM s fn := by
    intro s' hq; unfold M.lenM; rw [hq]
  try simp only [pureE, pureT, Nat.zero_add, Nat.reduceAdd, Bool.not_false, Bool.not_true]
  cases hev2 : ((M.noteM s1 1 fn).cache.put fn B).1.2
  · rw [hev2] at h
    try simp only [pureE, pureT, Nat.zero_add, Nat.reduceAdd, Bool.not_false, Bool.not_true]
    refine compiles_k (set_get hi) (by show fn < s1.fns.length; rw [hf1]; exact hfn) ?_
    rw [hsz]
    · exact h
    · exact hf1
  · rw [hev2] at h
    try simp only [pureE, pureT, Nat.zero_add, Nat.reduceAdd, Bool.not_false, Bool.not_true]
    refine gone_c (set_get hi) (by show (s1.events ++ [_]).length ≤ _; rw [he1]; simp; omega) ?_
    rw [List.set_set]
    refine compiles_k (set_get hi) (by show fn < s1.fns.length; rw [hf1]; exact hfn) ?_
    rw [hsz]
    · exact h
    · exact hf1
end
end Go.Proofs.YtkonigmefmgepaaDoor
