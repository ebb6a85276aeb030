/- Contracts: compiling (own work). -/
import Derived.Test.YtkonigmefmgepaaGreatDoorWc
import Derived.Lib.Builder
import Derived.Lib.AppendStr
import Derived.Lib.UnsafeStr
namespace Go.Proofs.YtkonigmefmgepaaGreatDoor
open Go.RowKit
set_option linter.unusedVariables false
set_option linter.unusedSimpArgs false

theorem Rd.one {W0 : World} {l : List As} {sz v n xs} (h : Rd W0 l sz v n xs) : v.oneCell' = true ∧ v.cells = #[v] := by
  obtain ⟨a, c, rfl, _⟩ := h.form
  exact ⟨rfl, rfl⟩

section
variable {W0 : World} {l : List As} {K : Value → C} {pn : Pn}

theorem body_c {i b fn : Nat} {t : MS} {s : M.Mgr} {f : M.Fn} {p : M.PFn} {pick : Int} (hi : l[i]? = some (mgrA b t s)) (hf : s.fns[fn]? = some f) (hp : s.prof[fn]? = some p) (hpp : p.params = M.clamp8 f.params) (hn : f.l.length ≤ 4294967296)
    (h : ∀ v', Run W0 (row 69 3 v' (M.bodyM s fn pick).1.length (insC (M.bodyM s fn pick).1) :: l.set i (mgrA b t (M.bodyM s fn pick).2)) (K v')) : Run W0 l (callS P 39 #[Ptr b, IV fn, IV pick] K pn) := by
  refine r39 ?_
  unfold S39
  have hfn := (List.getElem?_eq_some_iff.1 hf).1
  refine mgr_fns hi fun hfs _ hrd => ?_
  have hfl : t.fs.length = s.fns.length := by rw [← hfs, List.length_map]
  obtain ⟨e, he⟩ : ∃ e, t.fs[fn]? = some e := ⟨_, List.getElem?_eq_getElem (by omega)⟩
  have hef : e.1 = f := by
    have : s.fns[fn]? = some e.1 := by rw [← hfs, List.getElem?_map, he]; rfl
    rw [hf] at this
    exact (Option.some.inj this).symm
  refine mgr_fn hi he fun hrb => ?_
  obtain ⟨ho1, ho2⟩ := hrb.one
  try simp only [pureE, pureT, Nat.zero_add, Nat.reduceAdd, Bool.not_false, Bool.not_true]
  refine run_ld sc22 (mgr_fld hi fun x => rfl) ?_
  refine run_rd_idx un22 ty59 fnG_len (by omega) hrd fn he fun b2 o2 hc2 => ?_
  refine run_lda ag59 ty59 rfl hc2 ?_
  refine run_alloc ty59 fun b7 => ?_
  refine run_st ty59 (i := 0) rfl rfl (fun u hu => fnG_one e ho1 u (by simpa [Value.cells] using hu)) (by simp [Value.cells]) ?_
  refine run_to (pt b7 59 (fnG e) :: l) (fun w hw => hw) ?_
  have hi1 : (pt b7 59 (fnG e) :: l)[i + 1]? = some (mgrA b t s) := by simpa using hi
  refine params_c hi1 hfn ?_
  have hk8 : M.paramsM s fn ≤ 8 := by unfold M.paramsM M.clamp8; split <;> omega
  have hkp : ((M.paramsM s fn : Nat) : Int) = M.clamp8 f.params := by unfold M.paramsM M.clamp8; rw [hf]; simp only; omega
  unfold M.bodyM at h
  rw [hf] at h
  unfold M.forM_ at h
  generalize hkk : M.paramsM s fn = k at *
  refine run_loop (Inv := fun q : Nat => q ≤ k ∧ ∀ j, j < q → (pick == 2) = true → M.openM s.pub fn j = false) (J := fun q => [Ptr b, IV fn, IV pick, Ptr b7, IV k, IV q]) (H := fun q => pt b7 59 (fnG e) :: l) (μ := fun q => k - q) 0 ⟨by omega, fun j hj => by omega⟩ rfl (fun w hw => hw) ?_
  rintro q en ⟨hq, hno⟩ heq
  simp only [List.map_cons, List.map_nil, List.cons.injEq, and_true] at heq
  obtain ⟨e0, e1, e2, e7, e21, e22⟩ := heq
  unfold S39_l1
  simp only [e0, e1, e2, e7, e21, e22]
  try simp only [pureE, pureT, Nat.zero_add, Nat.reduceAdd, Bool.not_false, Bool.not_true]
  by_cases hlt : q < k
  · rw [dec_t (show (q : Int) < k by omega)]
    try simp only [pureE, pureT, Nat.zero_add, Nat.reduceAdd, Bool.not_false, Bool.not_true]
    cases h2 : pick == 2
    · try simp only [pureE, pureT, Nat.zero_add, Nat.reduceAdd, Bool.not_false, Bool.not_true]
      rw [wrN (x := (q : Int) + 1) (q + 1) (by omega) (by omega)]
      exact fun w hw => ⟨q + 1, by omega, ⟨by omega, fun j hj hp2 => absurd hp2 (by simp)⟩, rfl, hw⟩
    try simp only [pureE, pureT, Nat.zero_add, Nat.reduceAdd, Bool.not_false, Bool.not_true]
    refine open_c hi1 ?_
    cases ho : M.openM s.pub fn q
    · try simp only [pureE, pureT, Nat.zero_add, Nat.reduceAdd, Bool.not_false, Bool.not_true]
      rw [wrN (x := (q : Int) + 1) (q + 1) (by omega) (by omega)]
      refine fun w hw => ⟨q + 1, by omega, ⟨by omega, fun j hj hp2 => ?_⟩, rfl, hw⟩
      rcases Nat.lt_or_ge j q with h5 | h5
      · exact hno j h5 h2
      · obtain rfl : j = q := by omega
        exact ho
    try simp only [pureE, pureT, Nat.zero_add, Nat.reduceAdd, Bool.not_false, Bool.not_true]
    have hfo : M.fo (M.openM s.pub fn) k 0 = some q := by
      rw [M.fo_skip hq (fun j hj => hno j hj h2)]
      obtain ⟨d, hd⟩ : ∃ d, k - q = d + 1 := ⟨k - q - 1, by omega⟩
      rw [hd, M.fo, ho]; rfl
    rw [if_pos h2, hfo] at h
    refine run_ld sc64 (mgr_fld hi1 fun x => rfl) ?_
    refine run_open (i + 1) hi1 fun g => ?_
    refine run_pur 10 rfl fun hg => ?_
    refine value_c (i := 7) rfl hp (by rw [hpp, ← hkp]; omega) (by omega) ?_
    try simp only [pureE, pureT, Nat.zero_add, Nat.reduceAdd, Bool.not_false, Bool.not_true]
    refine run_ld sc63 (cl1 (i := 0) rfl rfl) ?_
    refine run_nx (.agg #[IV q, IV (p.runs q).1]) (fun w => by kernel_rfl) ?_
    refine run_mapUpdate un63 un3 (i := 8) rfl fun clk' => ?_
    refine run_setPur 10 ((ggset fn ((q : Int), (p.runs q).1) g.clk g.gg).map ggMod = M.aset fn ((q : Int), (p.runs q).1) s.guards ∧ t.fs.map (·.1) = s.fns ∧ t.ps.map (·.2) = s.pub) rfl ⟨by rw [← hg.1, ggaset], hg.2⟩ ?_
    refine run_to (mgrPs b t { s with guards := M.aset fn ((q : Int), (p.runs q).1) s.guards } { g with clk := clk', gg := ggset fn ((q : Int), (p.runs q).1) g.clk g.gg } ++ (pt b7 59 (fnG e) :: l).eraseIdx (i + 1)) (fun w hw => ?_) (run_shut _ (i + 1) _ hi1 ?_)
    · unfold mgrPs
      simp only
      rw [← ggmset]
      exact hw
    refine run_to (pt b7 59 (fnG e) :: l.set i (mgrA b t { s with guards := M.aset fn ((q : Int), (p.runs q).1) s.guards })) (fun w hw => hw) ?_
    refine run_lda ag59 ty59 (xs := fnG e) rfl (cl_all (i := 0) rfl) ?_
    refine mgr_fn (i := i + 1) (s := { s with guards := M.aset fn ((q : Int), (p.runs q).1) s.guards }) (by simpa using set_get hi) he fun hrb2 => ?_
    have hrun : M.runM s fn q = (p.runs q).1 := by unfold M.runM; rw [hp]
    simp only at h
    rw [hrun] at h
    refine for_c (f := e.1) hrb2 (by rw [hef]; exact hn) fun v' => ?_
    rw [hef]
    exact run_erase 1 (h v')
  · rw [dec_f (show ¬ (q : Int) < k by omega)]
    try simp only [pureE, pureT, Nat.zero_add, Nat.reduceAdd, Bool.not_false, Bool.not_true]
    have hnone : (if (pick == 2) = true then M.fo (M.openM s.pub fn) k 0 else none) = none := by
      split
      · rename_i h2
        rw [M.fo_skip hq (fun j hj => hno j hj h2), show k - q = 0 by omega]; rfl
      · rfl
    rw [hnone] at h
    refine run_lda ag59 ty59 (xs := fnG e) rfl (cl_all (i := 0) rfl) ?_
    refine plain_c (f := e.1) (hrb.mono fun _ hw => hw.tail) (by rw [hef]; exact hn) fun v' => ?_
    rw [hef]
    simp only at h
    have := h v'
    rw [row_set_id i hi] at this
    exact run_erase 1 this

theorem compiles_k {i b fn : Nat} {t : MS} {s : M.Mgr} (hi : l[i]? = some (mgrA b t s)) (hfn : fn < s.fns.length) (h : Run W0 l (K (IV (M.w64 (2 * (M.lenM s fn : Nat)))))) : Run W0 l (S23_k1 K pn (Ptr b) (IV fn)) := by
  unfold S23_k1
  refine mgr_fns hi fun hfs _ hrd => ?_
  have hfl : t.fs.length = s.fns.length := by rw [← hfs, List.length_map]
  obtain ⟨e, he⟩ : ∃ e, t.fs[fn]? = some e := ⟨_, List.getElem?_eq_getElem (by omega)⟩
  have hef : s.fns[fn]? = some e.1 := by rw [← hfs, List.getElem?_map, he]; rfl
  refine mgr_fn hi he fun hrb => ?_
  obtain ⟨a, c, hv, _, _, _⟩ := hrb.form
  try simp only [pureE, pureT, Nat.zero_add, Nat.reduceAdd, Bool.not_false, Bool.not_true]
  refine run_ld sc22 (mgr_fld hi fun x => rfl) ?_
  refine run_rd_idx un22 ty59 fnG_len (by omega) hrd fn he fun b2 o2 hc2 => ?_
  try simp only [pureE, pureT, Nat.zero_add, Nat.reduceAdd, Bool.not_false, Bool.not_true]
  refine run_ld sc36 (hc2.fld (k := 4) rfl) ?_
  rw [hv]
  try simp only [pureE, pureT, Nat.zero_add, Nat.reduceAdd, Bool.not_false, Bool.not_true]
  unfold M.lenM at h
  rw [hef] at h
  exact h

theorem compiles_c {i b fn : Nat} {t : MS} {s : M.Mgr} {f : M.Fn} {p : M.PFn} {pick : Int} (hi : l[i]? = some (mgrA b t s)) (hf : s.fns[fn]? = some f) (hp : s.prof[fn]? = some p) (hpp : p.params = M.clamp8 f.params) (hn : f.l.length ≤ 4294967296)
    (hev : s.events.length ≤ 4294967294) (hord : s.cache.order.length ≤ 4294967295) (hcap : 1 ≤ s.cache.cap)
    (h : Run W0 (l.set i (mgrA b t (M.compilesM s fn pick))) (K (IV (M.w64 (2 * (M.lenM s fn : Nat)))))) : Run W0 l (callS P 23 #[Ptr b, IV fn, IV pick] K pn) := by
  refine r23 ?_
  unfold S23
  have hfn := (List.getElem?_eq_some_iff.1 hf).1
  refine body_c hi hf hp hpp hn fun v' => ?_
  have hlenB : (M.bodyM s fn pick).1.length ≤ 4294967296 := by
    unfold M.bodyM
    rw [hf]
    simp only
    split
    · exact Nat.le_trans (M.spec_len _ _ _ _) hn
    · exact Nat.le_trans (M.fold_len _) hn
  have hs1 : (M.bodyM s fn pick).2.cache = s.cache ∧ (M.bodyM s fn pick).2.events = s.events ∧ (M.bodyM s fn pick).2.fns = s.fns := by
    unfold M.bodyM
    rw [hf]
    simp only
    split <;> exact ⟨rfl, rfl, rfl⟩
  unfold M.compilesM at h
  generalize hB : (M.bodyM s fn pick).1 = B at *
  generalize hS1 : (M.bodyM s fn pick).2 = s1 at *
  obtain ⟨hc1, he1, hf1⟩ := hs1
  have hi1 : (row 69 3 v' B.length (insC B) :: l.set i (mgrA b t s1))[i + 1]? = some (mgrA b t s1) := by simpa using set_get hi
  refine note_c hi1 (by rw [he1]; omega) ?_
  refine run_to (row 69 3 v' B.length (insC B) :: l.set i (mgrA b t (M.noteM s1 1 fn))) (fun w hw => by simpa [List.set_set] using hw) ?_
  have hi2 : (row 69 3 v' B.length (insC B) :: l.set i (mgrA b t (M.noteM s1 1 fn)))[i + 1]? = some (mgrA b t (M.noteM s1 1 fn)) := by simpa using set_get hi
  try simp only [pureE, pureT, Nat.zero_add, Nat.reduceAdd, Bool.not_false, Bool.not_true]
  refine run_ld sc60 (mgr_fld hi2 fun x => rfl) ?_
  refine run_open (i + 1) hi2 fun g => ?_
  have hcN : (M.noteM s1 1 fn).cache = s.cache := hc1
  refine run_row_rd2 11 ((mgrPs b t (M.noteM s1 1 fn) g ++ (row 69 3 v' B.length (insC B) :: l.set i (mgrA b t (M.noteM s1 1 fn))).eraseIdx (i + 1)).eraseIdx 1) 10 rfl rfl fun hrB => ?_
  refine put_c (i := 1) (s := (M.noteM s1 1 fn).cache) rfl (by rw [hcN]; exact hord) (by rw [hcN]; exact hcap) hrB hlenB ?_
  refine run_to (mgrPs b t { (M.noteM s1 1 fn) with cache := ((M.noteM s1 1 fn).cache.put fn B).2 } g ++ (row 69 3 v' B.length (insC B) :: l.set i (mgrA b t (M.noteM s1 1 fn))).eraseIdx (i + 1)) (fun w hw => hw) (run_shut _ (i + 1) _ hi2 ?_)
  refine run_drop ?_
  rw [List.set_set]
  unfold M.putM at h
  have hsz : ∀ (s' : M.Mgr), s'.fns = s.fns → M.lenM s' fn = M.lenM s fn := by
    intro s' hq; unfold M.lenM; rw [hq]
  try simp only [pureE, pureT, Nat.zero_add, Nat.reduceAdd, Bool.not_false, Bool.not_true]
  cases hev2 : ((M.noteM s1 1 fn).cache.put fn B).1.2
  · rw [hev2] at h
    try simp only [pureE, pureT, Nat.zero_add, Nat.reduceAdd, Bool.not_false, Bool.not_true]
    refine compiles_k (set_get hi) (by show fn < s1.fns.length; rw [hf1]; exact hfn) ?_
    rw [hsz]
    · exact h
    · exact hf1
  · rw [hev2] at h
    try simp only [pureE, pureT, Nat.zero_add, Nat.reduceAdd, Bool.not_false, Bool.not_true]
    refine gone_c (set_get hi) (by show (s1.events ++ [_]).length ≤ _; rw [he1]; simp; omega) ?_
    rw [List.set_set]
    refine compiles_k (set_get hi) (by show fn < s1.fns.length; rw [hf1]; exact hfn) ?_
    rw [hsz]
    · exact h
    · exact hf1
end
end Go.Proofs.YtkonigmefmgepaaGreatDoor

/- Contracts: a call (own work). -/
namespace Go.Proofs.YtkonigmefmgepaaGreatDoor
open Go.RowKit
set_option linter.unusedVariables false
set_option linter.unusedSimpArgs false

section
variable {W0 : World} {l : List As} {K : Value → C} {pn : Pn}

/-- The cache of a manager, asked. -/
theorem mgr_get {i b : Nat} {t : MS} {s : M.Mgr} {fn : Int} (hi : l[i]? = some (mgrA b t s)) (hb : ∀ e ∈ s.cache.bodies, e.2.length ≤ 4294967296)
    (h : ∀ v', Run W0 (row 69 3 v' (s.cache.get fn).length (insC (s.cache.get fn)) :: l) (K (.tuple #[v', .bool (s.cache.has fn)]))) : Run W0 l (callS P 21 #[Ptr t.cb, IV fn] K pn) := by
  refine run_open i hi fun g => ?_
  refine get_c (i := 1) rfl hb fun v' => ?_
  refine run_shut1 l i g hi ?_
  rw [show l.set i (obj (mgrPs b t s)) = l from row_set_id i hi]
  exact h v'
/-- The guards of a manager, asked. -/
theorem mgr_guard {i b : Nat} {t : MS} {s : M.Mgr} {fn : Int} (hi : l[i]? = some (mgrA b t s))
    (h : Run W0 l (K (.tuple #[((M.aget fn s.guards).map fun x => Value.agg #[IV x.1, IV x.2]).getD (.agg #[IV 0, IV 0]), .bool (M.aget fn s.guards).isSome]))) :
    Run W0 l (nextS P (V (Instr.lookup 63 (.map (some t.gb)) (IV fn) true)) K pn) := by
  refine run_open i hi fun g => ?_
  refine run_pur 10 rfl fun hg => ?_
  refine run_lookup un63 un3 ty86 (i := 8) rfl ?_
  rw [if_pos rfl]
  refine run_shut l i g hi ?_
  rw [show l.set i (obj (mgrPs b t s)) = l from row_set_id i hi]
  have h1 := ggmget fn g.gg
  have h2 := ggaget fn g.gg
  rw [hg.1] at h2
  rw [h2] at h
  rw [h1]
  cases hq : M.aget fn g.gg with
  | none => rw [hq] at h; exact h
  | some x => rw [hq] at h; exact h

theorem end_c {i b m : Nat} {t : MS} {s : M.Mgr} {fn : Int} {charge : Int} {ov : Value} {own : List Int} (hi : l[i]? = some (mgrA b t s)) (hr : Rd W0 l 1 ov m (numC own)) (hb : ∀ e ∈ s.cache.bodies, e.2.length ≤ 4294967296) (hev : s.events.length ≤ 4294967295)
    (hg : ∀ g, M.aget fn s.guards = some g → 0 ≤ g.1 ∧ g.1.toNat < own.length)
    (h : ∀ v', Run W0 (row 69 3 v' (M.endM s fn own charge).1.1.length (insC (M.endM s fn own charge).1.1) :: l.set i (mgrA b t (M.endM s fn own charge).2))
      (K (.tuple #[v', .bool (M.endM s fn own charge).1.2.1, IV (M.endM s fn own charge).1.2.2]))) : Run W0 l (S9_k1 K pn (Ptr b) (IV fn) (IV charge) ov) := by
  unfold S9_k1
  try simp only [pureE, pureT, Nat.zero_add, Nat.reduceAdd, Bool.not_false, Bool.not_true]
  refine run_ld sc60 (mgr_fld hi fun x => rfl) ?_
  refine mgr_get hi hb fun v' => ?_
  have hi1 : ∀ A, (A :: l)[i + 1]? = some (mgrA b t s) := fun A => by simpa using hi
  try simp only [pureE, pureT, Nat.zero_add, Nat.reduceAdd, Bool.not_false, Bool.not_true]
  refine run_ld sc63 (mgr_fld (hi1 _) fun x => rfl) ?_
  refine mgr_guard (hi1 _) ?_
  try simp only [pureE, pureT, Nat.zero_add, Nat.reduceAdd, Bool.not_false, Bool.not_true]
  refine run_alloc ty86 fun bg => ?_
  obtain ⟨gp, gn, hgv, hgs⟩ : ∃ gp gn, ((M.aget fn s.guards).map fun x => Value.agg #[IV x.1, IV x.2]).getD (.agg #[IV 0, IV 0]) = .agg #[IV gp, IV gn] ∧ (∀ g, M.aget fn s.guards = some g → g = (gp, gn)) := by
    cases hq : M.aget fn s.guards with
    | none => exact ⟨0, 0, rfl, fun g hg => by simp at hg⟩
    | some g => exact ⟨g.1, g.2, rfl, fun g' hg => by simp at hg; exact hg.symm⟩
  rw [hgv]
  refine run_st ty86 (i := 0) rfl rfl (by simp [Value.cells, Value.oneCell']) (by simp [Value.cells]) ?_
  refine run_to (pt bg 86 [IV gp, IV gn] :: row 69 3 v' (s.cache.get fn).length (insC (s.cache.get fn)) :: l) (fun w hw => hw) ?_
  have hi2 : (pt bg 86 [IV gp, IV gn] :: row 69 3 v' (s.cache.get fn).length (insC (s.cache.get fn)) :: l)[i + 2]? = some (mgrA b t s) := by simpa using hi
  unfold M.endM at h
  cases hh : s.cache.has fn
  · rw [hh] at h
    simp only [Bool.false_eq_true, if_false] at h
    try simp only [pureE, pureT, Nat.zero_add, Nat.reduceAdd, Bool.not_false, Bool.not_true]
    refine run_drop (run_drop (run_rowNil 69 3 ?_))
    have := h (.slice none 0 0)
    rw [row_set_id i hi] at this
    exact this
  rw [hh] at h
  simp only [if_true] at h
  try simp only [pureE, pureT, Nat.zero_add, Nat.reduceAdd, Bool.not_false, Bool.not_true]
  refine run_draw (pt bg 86 [IV gp, IV gn] :: row 69 3 v' (s.cache.get fn).length (insC (s.cache.get fn)) :: l) (fun w hw => hw) ?_
  have good : M.guardBad s fn own = false → Run W0 (pt bg 86 [IV gp, IV gn] :: row 69 3 v' (s.cache.get fn).length (insC (s.cache.get fn)) :: l) (callS P 26 #[Ptr b, IV 2, IV fn] (fun _ => K (.tuple #[v', .bool true, IV charge])) pn) := by
    intro hq
    rw [hq] at h
    simp only [Bool.false_eq_true, if_false] at h
    refine note_c hi2 hev ?_
    exact run_drop (h v')
  cases hq : M.aget fn s.guards with
  | none =>
    try simp only [pureE, pureT, Nat.zero_add, Nat.reduceAdd, Bool.not_false, Bool.not_true]
    rw [show (none : Option (Int × Int)).isSome = false from rfl]
    try simp only [pureE, pureT, Nat.zero_add, Nat.reduceAdd, Bool.not_false, Bool.not_true]
    exact good (by unfold M.guardBad; rw [hq])
  | some g =>
    have hgg := hgs g hq
    obtain ⟨h0, h1⟩ := hg g hq
    subst hgg
    obtain ⟨gk, rfl⟩ : ∃ gk : Nat, gp = (gk : Int) := ⟨gp.toNat, by simp only at h0; omega⟩
    simp only [Int.toNat_natCast] at h1
    try simp only [pureE, pureT, Nat.zero_add, Nat.reduceAdd, Bool.not_false, Bool.not_true]
    rw [show (some ((gk : Int), gn)).isSome = true from rfl]
    try simp only [pureE, pureT, Nat.zero_add, Nat.reduceAdd, Bool.not_false, Bool.not_true]
    refine take_ld sc3 (cl1 (i := 0) rfl rfl) ?_
    obtain ⟨x, hx⟩ : ∃ x, own[gk]? = some x := ⟨_, List.getElem?_eq_getElem h1⟩
    have hr2 : Rd W0 (pt bg 86 [IV gk, IV gn] :: row 69 3 v' (s.cache.get fn).length (insC (s.cache.get fn)) :: l) 1 ov m (numC own) := hr.mono fun _ hw => hw.tail.tail
    refine run_rd_idxP un26 ty2 numV_len (by omega) hr2 gk hx fun b2 o2 hc2 => ?_
    refine take_ld sc2 hc2 ?_
    try simp only [pureE, pureT, Nat.zero_add, Nat.reduceAdd, Bool.not_false, Bool.not_true]
    refine take_ld sc2 (cl1 (i := 0) rfl rfl) ?_
    try simp only [pureE, pureT, Nat.zero_add, Nat.reduceAdd, Bool.not_false, Bool.not_true]
    cases hne : x != gn
    · try simp only [pureE, pureT, Nat.zero_add, Nat.reduceAdd, Bool.not_false, Bool.not_true]
      have : M.guardBad s fn own = false := by unfold M.guardBad; rw [hq]; simp only [Int.toNat_natCast]; rw [hx]; exact hne
      have := good this
      exact this
    · have hbad : M.guardBad s fn own = true := by unfold M.guardBad; rw [hq]; simp only [Int.toNat_natCast]; rw [hx]; exact hne
      rw [hbad] at h
      simp only [if_true] at h
      try simp only [pureE, pureT, Nat.zero_add, Nat.reduceAdd, Bool.not_false, Bool.not_true]
      refine note_c (i := i + 2) (s := s) (by simpa using hi) hev ?_
      refine run_drop (run_drop (run_rowNil 69 3 ?_))
      exact h (.slice none 0 0)

theorem enter_c {i b m : Nat} {t : MS} {s : M.Mgr} {fn : Int} {av : Value} {args : List Int} (hi : l[i]? = some (mgrA b t s)) (hr : Rd W0 l 1 av m (numC args)) (ok : M.Ok s) (hev : s.events.length ≤ 4294967000)
    (h : ∀ v', Run W0 (row 69 3 v' (M.enterM s fn args).1.1.length (insC (M.enterM s fn args).1.1) :: l.set i (mgrA b t (M.enterM s fn args).2))
      (K (.tuple #[v', .bool (M.enterM s fn args).1.2.1, IV (M.enterM s fn args).1.2.2]))) : Run W0 l (callS P 9 #[Ptr b, IV fn, av] K pn) := by
  refine r9 ?_
  unfold S9
  have out : (decide (fn < 1) || decide ((s.fns.length : Int) ≤ fn)) = true → Run W0 l (K (.tuple #[.slice none 0 0, .bool false, IV 0])) := by
    intro hq
    unfold M.enterM at h
    rw [if_pos hq] at h
    refine run_rowNil 69 3 ?_
    have := h (.slice none 0 0)
    rw [row_set_id i hi] at this
    exact this
  try simp only [pureE, pureT, Nat.zero_add, Nat.reduceAdd, Bool.not_false, Bool.not_true]
  cases h1 : decide (fn < 1)
  case true =>
    try simp only [pureE, pureT, Nat.zero_add, Nat.reduceAdd, Bool.not_false, Bool.not_true]
    exact out (by rw [h1]; rfl)
  refine mgr_fns hi fun hfs _ hrd => ?_
  have hfl : t.fs.length = s.fns.length := by rw [← hfs, List.length_map]
  obtain ⟨a, c, hv, _, _, _⟩ := hrd.form
  try simp only [pureE, pureT, Nat.zero_add, Nat.reduceAdd, Bool.not_false, Bool.not_true]
  refine run_ld sc22 (mgr_fld hi fun x => rfl) ?_
  rw [hv]
  try simp only [pureE, pureT, Nat.zero_add, Nat.reduceAdd, Bool.not_false, Bool.not_true]
  rw [hfl]
  cases h2 : decide ((s.fns.length : Int) ≤ fn)
  case true =>
    try simp only [pureE, pureT, Nat.zero_add, Nat.reduceAdd, Bool.not_false, Bool.not_true]
    exact out (by rw [h1, h2]; rfl)
  try simp only [pureE, pureT, Nat.zero_add, Nat.reduceAdd, Bool.not_false, Bool.not_true]
  simp only [decide_eq_false_iff_not] at h1 h2
  obtain ⟨k, rfl⟩ : ∃ k : Nat, fn = (k : Int) := ⟨fn.toNat, by omega⟩
  have hk : k < s.fns.length := by omega
  unfold M.enterM at h
  rw [if_neg (by simp only [Bool.or_eq_true, decide_eq_true_eq]; omega)] at h
  simp only [Int.toNat_natCast] at h
  obtain ⟨f, hf⟩ : ∃ f, s.fns[k]? = some f := ⟨_, List.getElem?_eq_getElem hk⟩
  obtain ⟨p, hp, hpp⟩ := ok.prof k f hf
  have hk8 : M.paramsM s k ≤ 8 := by unfold M.paramsM M.clamp8; split <;> omega
  have hkp : ((M.paramsM s k : Nat) : Int) = M.clamp8 f.params := by unfold M.paramsM M.clamp8; rw [hf]; simp only; omega
  have hol : (M.seenM s k args).length = M.paramsM s k := by simp [M.seenM]
  refine seen_c hi hk hr fun ov => ?_
  have ok2 := ok.see k args
  have hs2 : (M.seeM s k args).cache = s.cache := rfl
  generalize hown : M.seenM s k args = own at *
  have hi1 : (row 2 1 ov (M.paramsM s k) (numC own) :: l)[i + 1]? = some (mgrA b t s) := by simpa using hi
  refine run_ld sc64 (mgr_fld hi1 fun x => rfl) ?_
  refine run_open (i + 1) hi1 fun g => ?_
  refine run_row_rd2 11 ((mgrPs b t s g ++ (row 2 1 ov (M.paramsM s k) (numC own) :: l).eraseIdx (i + 1)).eraseIdx 7) 10 rfl rfl fun hrO => ?_
  refine see_c (i := 7) rfl hp (by rw [hpp, ← hkp, hol]) (by omega) ok.nf hrO ?_
  refine run_to (mgrPs b t { s with prof := M.seeP s.prof k own } g ++ (row 2 1 ov (M.paramsM s k) (numC own) :: l).eraseIdx (i + 1)) (fun w hw => hw) (run_shut _ (i + 1) _ hi1 ?_)
  refine run_to (row 2 1 ov (M.paramsM s k) (numC own) :: l.set i (mgrA b t { s with prof := M.seeP s.prof k own })) (fun w hw => hw) ?_
  have hi2 : (row 2 1 ov (M.paramsM s k) (numC own) :: l.set i (mgrA b t { s with prof := M.seeP s.prof k own }))[i + 1]? = some (mgrA b t { s with prof := M.seeP s.prof k own }) := by simpa using set_get hi
  try simp only [pureE, pureT, Nat.zero_add, Nat.reduceAdd, Bool.not_false, Bool.not_true]
  refine run_ld sc60 (mgr_fld hi2 fun x => rfl) ?_
  refine mgr_get hi2 ok.bodies fun vx => ?_
  refine run_drop ?_
  try simp only [pureE, pureT, Nat.zero_add, Nat.reduceAdd, Bool.not_false, Bool.not_true]
  refine pick_c hi2 ?_
  refine run_to (row 2 1 ov (M.paramsM s k) (numC own) :: l.set i (mgrA b t (M.seeM s k args))) (fun w hw => ?_) ?_
  · have e : M.seeM s k args = { s with prof := M.seeP s.prof k own, picks := s.picks.tail } := by unfold M.seeM; rw [hown]
    rw [e]
    simpa [List.set_set] using hw
  have hi3 : (row 2 1 ov (M.paramsM s k) (numC own) :: l.set i (mgrA b t (M.seeM s k args)))[i + 1]? = some (mgrA b t (M.seeM s k args)) := by simpa using set_get hi
  have hf3 : (M.seeM s k args).fns[k]? = some f := hf
  obtain ⟨p3, hp3, hpp3⟩ := ok2.prof k f hf3
  have hev3 : (M.seeM s k args).events = s.events := rfl
  have hpm3 : M.paramsM (M.seeM s k args) k = M.paramsM s k := rfl
  simp only
  have hcache : (⟨s.cache, s.fns, s.pub, s.picks, M.seeP s.prof k own, s.guards, s.events⟩ : M.Mgr).cache = (M.seeM s k args).cache := rfl
  rw [show ({ s with prof := M.seeP s.prof k own } : M.Mgr).cache.has (k : Int) = (M.seeM s k args).cache.has k from rfl]
  generalize hpk : s.picks.headD 0 = pk at *
  generalize hS : M.seeM s k args = s2 at *
  have fin : ∀ (ch : Int) (s3 : M.Mgr), M.midM s2 k pk = (ch, s3) → Run W0 (row 2 1 ov (M.paramsM s k) (numC own) :: l.set i (mgrA b t s3)) (S9_k1 K pn (Ptr b) (IV k) (IV ch) ov) := by
    intro ch s3 hm
    rw [hm] at h
    have ok3 : M.Ok s3 := by have := ok2.mid k pk; rw [hm] at this; exact this
    have hme := M.midM_ev s2 k pk
    rw [hm] at hme
    simp only [hev3] at hme
    refine run_row_rd 0 rfl fun hrO2 => ?_
    refine end_c (i := i + 1) (by simpa using set_get hi) hrO2 ok3.bodies (by omega) (fun g hg => ?_) fun v' => ?_
    · obtain ⟨j, hj⟩ := M.aget_mem hg
      have := ok3.guards _ (List.mem_of_getElem? hj)
      refine ⟨this.1, ?_⟩
      have h4 := this.2
      simp only [Int.toNat_natCast] at h4
      rw [hol, ← hpm3]
      have e : M.paramsM s3 k = M.paramsM s2 k := by unfold M.paramsM; rw [hme.2]
      rw [← e]; exact h4
    · refine run_to (row 69 3 v' (M.endM s3 k own ch).1.1.length (insC (M.endM s3 k own ch).1.1) :: l.set i (mgrA b t (M.endM s3 k own ch).2)) (fun w hw => ?_) (h v')
      have := hw.erase 1
      simpa [List.set_set] using this
  unfold M.midM at fin
  have comp : ((pk == 1 || pk == 2) && !s2.cache.has k) = true → Run W0 (row 2 1 ov (M.paramsM s k) (numC own) :: l.set i (mgrA b t s2)) (callS P 23 #[Ptr b, IV k, IV pk] (fun x63 => S9_k1 K pn (Ptr b) (IV k) x63 ov) pn) := by
    intro hq
    rw [if_pos hq] at fin
    refine compiles_c hi3 hf3 hp3 hpp3 (ok2.len f (List.mem_of_getElem? hf3)) (by rw [hev3]; omega) (by have := ok2.order; rw [hev3] at this; omega) ok2.cap ?_
    refine run_to (row 2 1 ov (M.paramsM s k) (numC own) :: l.set i (mgrA b t (M.compilesM s2 k pk))) (fun w hw => by simpa [List.set_set] using hw) ?_
    exact fin _ _ rfl
  have comp2 : ((pk == 1 || pk == 2) && !s2.cache.has k) = false → Run W0 (row 2 1 ov (M.paramsM s k) (numC own) :: l.set i (mgrA b t s2))
      (grdS (.bool (pk == 3)) true (fun K => K (.bool (s2.cache.has k))) fun x68 => nextS P (pickN (.bool (pk == 3)) x68 (Value.bool false)) (fun x69 => condS x69
        (nextS P (V (Instr.loadAt 60 (Ptr b))) (fun x73 => callS P 24 #[x73, IV k] (fun _ => callS P 25 #[Ptr b, IV k] (fun _ => S9_k1 K pn (Ptr b) (IV k) (IV 0) ov) pn) pn) pn)
        (S9_k1 K pn (Ptr b) (IV k) (IV 0) ov)) pn) := by
    intro hq
    rw [if_neg (by rw [hq]; simp)] at fin
    try simp only [pureE, pureT, Nat.zero_add, Nat.reduceAdd, Bool.not_false, Bool.not_true]
    cases h3 : pk == 3
    · rw [h3] at fin
      try simp only [pureE, pureT, Nat.zero_add, Nat.reduceAdd, Bool.not_false, Bool.not_true]
      exact fin _ _ (by simp)
    rw [h3] at fin
    try simp only [pureE, pureT, Nat.zero_add, Nat.reduceAdd, Bool.not_false, Bool.not_true]
    cases hh : s2.cache.has k
    · rw [hh] at fin
      try simp only [pureE, pureT, Nat.zero_add, Nat.reduceAdd, Bool.not_false, Bool.not_true]
      exact fin _ _ (by simp)
    rw [hh] at fin
    try simp only [pureE, pureT, Nat.zero_add, Nat.reduceAdd, Bool.not_false, Bool.not_true]
    refine run_ld sc60 (mgr_fld hi3 fun x => rfl) ?_
    refine run_open (i + 1) hi3 fun g3 => ?_
    refine drop_c (i := 1) rfl (by have := ok2.order; rw [hev3] at this; omega) ?_
    refine run_to (mgrPs b t { s2 with cache := s2.cache.drop k } g3 ++ (row 2 1 ov (M.paramsM s k) (numC own) :: l.set i (mgrA b t s2)).eraseIdx (i + 1)) (fun w hw => hw) (run_shut _ (i + 1) _ hi3 ?_)
    refine run_to (row 2 1 ov (M.paramsM s k) (numC own) :: l.set i (mgrA b t { s2 with cache := s2.cache.drop k })) (fun w hw => by
      have h9 := hw
      simp only [List.set_cons_succ, List.set_set] at h9
      exact h9) ?_
    refine gone_c (i := i + 1) (s := { s2 with cache := s2.cache.drop k }) (by simpa using set_get hi) (by show s2.events.length ≤ _; rw [hev3]; omega) ?_
    refine run_to (row 2 1 ov (M.paramsM s k) (numC own) :: l.set i (mgrA b t (M.goneM { s2 with cache := s2.cache.drop k } k))) (fun w hw => by simpa [List.set_set] using hw) ?_
    exact fin _ _ (by simp)
  try simp only [pureE, pureT, Nat.zero_add, Nat.reduceAdd, Bool.not_false, Bool.not_true]
  cases hp1 : pk == 1
  · rw [hp1] at comp comp2
    try simp only [pureE, pureT, Nat.zero_add, Nat.reduceAdd, Bool.not_false, Bool.not_true]
    cases hp2 : pk == 2
    · rw [hp2] at comp comp2
      try simp only [pureE, pureT, Nat.zero_add, Nat.reduceAdd, Bool.not_false, Bool.not_true]
      exact comp2 rfl
    rw [hp2] at comp comp2
    try simp only [pureE, pureT, Nat.zero_add, Nat.reduceAdd, Bool.not_false, Bool.not_true]
    cases hh : s2.cache.has k
    · rw [hh] at comp
      try simp only [pureE, pureT, Nat.zero_add, Nat.reduceAdd, Bool.not_false, Bool.not_true]
      exact comp rfl
    · try simp only [pureE, pureT, Nat.zero_add, Nat.reduceAdd, Bool.not_false, Bool.not_true]
      have := comp2 (by rw [hh]; rfl)
      rw [hh] at this
      exact this
  · rw [hp1] at comp comp2
    try simp only [pureE, pureT, Nat.zero_add, Nat.reduceAdd, Bool.not_false, Bool.not_true]
    cases hh : s2.cache.has k
    · rw [hh] at comp
      try simp only [pureE, pureT, Nat.zero_add, Nat.reduceAdd, Bool.not_false, Bool.not_true]
      exact comp rfl
    · try simp only [pureE, pureT, Nat.zero_add, Nat.reduceAdd, Bool.not_false, Bool.not_true]
      have := comp2 (by rw [hh]; rfl)
      rw [hh] at this
      exact this
end
end Go.Proofs.YtkonigmefmgepaaGreatDoor

/- Contracts: the laws' helpers (own work). -/
namespace Go.Proofs.YtkonigmefmgepaaGreatDoor
open Go.RowKit
set_option linter.unusedVariables false
set_option linter.unusedSimpArgs false

/-- Code that is owned. -/
def codePs (cv : Value) (fs : List M.Fn) (gs : List FG) : List As := [row 59 5 cv gs.length (gs.flatMap fnG), big (gs.map fRow), pur (gs.map (·.1) = fs)]
def codeA (cv : Value) (fs : List M.Fn) : As := obj (codePs cv fs)

section
variable {W0 : World} {l : List As} {K : Value → C} {pn : Pn}

theorem pair_c (h : ∀ cv, Run W0 (codeA cv M.pairM :: l) (K (.agg #[cv]))) : Run W0 l (callS P 13 #[] K pn) := by
  refine r13 ?_
  unfold S13
  refine run_alloc ty24 fun b0 => ?_
  refine run_nx (insA ⟨2, 0, 0⟩) (fun w => by kernel_rfl) ?_
  refine run_nx (insA ⟨1, 0, 3⟩) (fun w => by kernel_rfl) ?_
  refine run_nx (insA ⟨8, 0, 0⟩) (fun w => by kernel_rfl) ?_
  refine run_nx (insA ⟨18, 0, 0⟩) (fun w => by kernel_rfl) ?_
  refine run_buildSlice (insC [⟨2, 0, 0⟩, ⟨1, 0, 3⟩, ⟨8, 0, 0⟩, ⟨18, 0, 0⟩]) un36 ty69 (by omega) (by omega) (by kernel_rfl) fun b6 => ?_
  refine run_nx (insA ⟨1, 0, 0⟩) (fun w => by kernel_rfl) ?_
  refine run_nx (insA ⟨18, 0, 0⟩) (fun w => by kernel_rfl) ?_
  refine run_buildSlice (insC [⟨1, 0, 0⟩, ⟨18, 0, 0⟩]) un36 ty69 (by omega) (by omega) (by kernel_rfl) fun b9 => ?_
  let f0 : M.Fn := ⟨⟨#[]⟩, 0, 0, 0, [⟨1, 0, 0⟩, ⟨18, 0, 0⟩]⟩
  let f1 : M.Fn := ⟨⟨#[102]⟩, 1, 1, 0, [⟨2, 0, 0⟩, ⟨1, 0, 3⟩, ⟨8, 0, 0⟩, ⟨18, 0, 0⟩]⟩
  refine run_nx (fnA f0 (.slice (some ⟨b9, 0, none⟩) 2 2)) (fun w => by kernel_rfl) ?_
  refine run_nx (fnA f1 (.slice (some ⟨b6, 0, none⟩) 4 4)) (fun w => by kernel_rfl) ?_
  let gs : List FG := [(f0, .slice (some ⟨b9, 0, none⟩) 2 2), (f1, .slice (some ⟨b6, 0, none⟩) 4 4)]
  refine run_buildSlice (gs.flatMap fnG) un22 ty59 (by omega) (by omega) (by kernel_rfl) fun b13 => ?_
  refine run_nx (.agg #[.slice (some ⟨b13, 0, none⟩) 2 2]) (fun w => by kernel_rfl) ?_
  refine run_st ty24 (i := 3) rfl rfl (by simp [Value.cells, Value.oneCell']) (by simp [Value.cells]) ?_
  refine run_cell ag24 ty24 (xs := [.slice (some ⟨b13, 0, none⟩) 2 2]) rfl (cl_all (i := 3) rfl) ?_
  refine run_rowOfPt 0 5 2 rfl (by simp [gs, fnG, fnV]) (by unfold maxLen; omega) ?_
  refine run_rowOfPt 1 3 2 rfl (by simp [insC, insV]) (by unfold maxLen; omega) ?_
  refine run_rowOfPt 2 3 4 rfl (by simp [insC, insV]) (by unfold maxLen; omega) ?_
  refine run_erase 3 ?_
  refine run_to (codePs (.slice (some ⟨b13, 0, none⟩) 2 2) M.pairM gs ++ l) (fun w hw => ?_) (run_pack _ (h _))
  have h1 : St W0 ([fRow (f0, .slice (some ⟨b9, 0, none⟩) 2 2), fRow (f1, .slice (some ⟨b6, 0, none⟩) 4 4)] ++ (row 59 5 (.slice (some ⟨b13, 0, none⟩) 2 2) 2 (gs.flatMap fnG) :: l)) w := (hw.front 2).front 2
  have h2 := h1.pack (A' := big (gs.map fRow)) fun F hs => hs
  have h3 : St W0 (pur (gs.map (·.1) = M.pairM) :: big (gs.map fRow) :: row 59 5 (.slice (some ⟨b13, 0, none⟩) 2 2) 2 (gs.flatMap fnG) :: l) w := h2.new ⟨rfl, rfl, rfl, Nat.le_refl _, fun _ _ _ => rfl⟩ (fun _ => False) (fun _ hx => hx.elim) rfl
  exact ((h3.front 1).front 2 : St W0 _ w)

theorem part0 (a b : Int) (w : World) : (part 3 #[IV a, IV b] 0).run P w = .ok (IV a) w := by kernel_rfl
theorem part1 (a b : Int) (w : World) : (part 3 #[IV a, IV b] 1).run P w = .ok (IV b) w := by kernel_rfl
theorem eqEv (a b c d : Int) (w : World) : (Op.equal 52 (.agg #[IV a, IV b]) (.agg #[IV c, IV d])).run P w = .ok (a == c && b == d) w := by
  have e3 : ∀ (a c : Int), (Op.equalIn 9999 3 (IV a) (IV c)).run P w = .ok (a == c) w := by
    intro a c
    rw [show 9999 = 9998 + 1 from rfl, Op.equalIn]
    simp [run_underlying un3]
  show (Op.equalIn (9999 + 1) 52 _ _).run P w = _
  rw [Op.equalIn]
  cases h1 : a == c <;> cases h2 : b == d <;> simp [e3, h1, h2, part0, part1]
theorem pv_neqEv {x y : Operand} (a b c d : Int) (w : World) : (binN .neq 52 x y (.agg #[IV a, IV b]) (.agg #[IV c, IV d])).run P w = .ok (.value (.bool !(a == c && b == d))) w := by
  simp [binN, eqGuard, binOp, eqEv]
theorem pv_eqlEv {x y : Operand} (a b c d : Int) (w : World) : (binN .eql 52 x y (.agg #[IV a, IV b]) (.agg #[IV c, IV d])).run P w = .ok (.value (.bool (a == c && b == d))) w := by
  simp [binN, eqGuard, binOp, eqEv]

end
end Go.Proofs.YtkonigmefmgepaaGreatDoor

/- Contracts: the builder of strings (own work). -/
namespace Go.Proofs.YtkonigmefmgepaaGreatDoor
open Go.RowKit
set_option linter.unusedVariables false
set_option linter.unusedSimpArgs false
section
variable {W0 : World} {l : List As} {K : Value → C} {pn : Pn}
theorem noesc (a : Value) (w : World) : (callFunc 59 #[a]).run P w = .ok (.value a) w := by kernel_rfl
theorem run_ext {f : FuncId} {args : Array Value} {v : Value} (h : ∀ w, (callFunc f args).run P w = .ok (.value v) w) (hk : Run W0 l (K v)) : Run W0 l (callS P f args K pn) :=
  fun w hw => ⟨⟨by rw [h w]; exact hk w hw⟩⟩

theorem un143' : P.underlying 143 = some .unsafePointer := by kernel_rfl
theorem eqSelf (b : Nat) (w : World) {x y : Operand} : (binN .neq 95 x y (Ptr b) (Ptr b)).run P w = .ok (.value (.bool false)) w := by
  have e : (Op.equal 95 (Ptr b) (Ptr b)).run P w = .ok true w := by
    show (Op.equalIn (9999 + 1) 95 _ _).run P w = _
    obtain ⟨j, hj, h1, _, _⟩ := tyI_spec ty98
    rw [Op.equalIn]
    simp [run_underlying un95, sizeOf, typeInfo, hj, h1, sameAddr]
  simp [binN, eqGuard, binOp, e]
theorem copyCheck_c {i b : Nat} {p v : Value} (hp : p = .pointer none ∨ p = Ptr b) (hi : l[i]? = some (pt b 98 [p, v])) (h : Run W0 (l.set i (pt b 98 [Ptr b, v])) (K (.tuple #[]))) : Run W0 l (callS P 46 #[Ptr b] K pn) := by
  refine r46 ?_
  unfold S46
  try simp only [pureE, pureT, Nat.zero_add, Nat.reduceAdd, Bool.not_false, Bool.not_true]
  refine run_ld sc95 (cl1 hi rfl) ?_
  obtain ⟨j, hj, h1, _, _⟩ := tyI_spec ty98
  rcases hp with rfl | rfl
  · refine run_nx (.bool true) (fun w => pv_eqlPN un95) ?_
    try simp only [pureE, pureT, Nat.zero_add, Nat.reduceAdd, Bool.not_false, Bool.not_true]
    refine run_val (Ptr b) (fun w hw => ?_) ?_
    · have hb := (hw.pt hi).1
      have := Lib.run_to_unsafe (P := P) (w := w) (src := 95) (dst := 143) (e := 98) (cells := 2) ⟨b, 0, none⟩ un95 un143' hj (by rw [h1]; omega) (by simp [World.shape?, hb]) (by simp)
      simp only [V, Sem.run_bind, this, Result.andThen_ok]; rfl
    refine run_ext (noesc _) ?_
    refine run_val (Ptr b) (fun w hw => ?_) ?_
    · have hb := (hw.pt hi).1
      have := Lib.run_from_unsafe (P := P) (w := w) (src := 143) (dst := 95) (e := 98) (cells := 2) ⟨b, 0, none⟩ un143' un95 hj (by simp [World.shape?, hb]) (by kernel_rfl)
      simp only [V, Sem.run_bind, this, Result.andThen_ok]; rfl
    try simp only [pureE, pureT, Nat.zero_add, Nat.reduceAdd, Bool.not_false, Bool.not_true]
    refine run_st ty95 hi rfl (by simp [Value.cells, Value.oneCell']) (by simp) ?_
    exact h
  · refine run_nx (.bool false) (fun w => pv_eqlPN un95) ?_
    try simp only [pureE, pureT, Nat.zero_add, Nat.reduceAdd, Bool.not_false, Bool.not_true]
    refine run_ld sc95 (cl1 hi rfl) ?_
    refine run_nx _ (fun w => eqSelf b w) ?_
    try simp only [pureE, pureT, Nat.zero_add, Nat.reduceAdd, Bool.not_false, Bool.not_true]
    rw [row_set_id i hi] at h
    exact h

/-- 'append' of a string's bytes onto an owned row of bytes. -/
theorem run_append_str {P : Program} {t u ty E : TypeId} {cons : Array Bool} {z : Value} (i : Nat) {v : Value} {n : Nat} {xs : List Value} {s : ByteArray} (ht : P.underlying t = some (.slice E)) (hu : P.underlying u = some .string) (hs : tyI P E = some (1, 1, some z)) (hz : z.cells.size = 1)
    (hi : l[i]? = some (row E 1 v n xs)) (hm : n + s.size ≤ 140737488355328)
    (hk : ∀ v', Run W0 (l.set i (row E 1 v' (n + s.size) (xs ++ Lib.strCells s))) (K v')) : Run W0 l (nextS P (bltN .append #[t, u] ty cons #[v, .string s]) K pn) := by
  obtain ⟨inf, hinf, hsz, hbt, hzz⟩ := tyI_spec hs
  refine run_turn fun w hw => ?_
  have key : ∀ {v' : Value} {w' : World}, (Builtin.append_ #[t, u] ty #[v, .string s]).run P w = .ok v' w' → (bltN .append #[t, u] ty cons #[v, .string s]).run P w = .ok (.value v') w' := fun h => by
    simp only [bltN, builtin, Sem.run_bind, h, Result.andThen_ok]; rfl
  obtain ⟨hlen, hrow⟩ := hw.row hi
  have hsl := Lib.strCells_length s
  have grow : ∀ (old : Nat), old < n + s.size → St W0 (l.set i (row E 1 (.slice (some ⟨w.heap.size, 0, none⟩) (n + s.size) (grownCap w (n + s.size) old E)) (n + s.size) (xs ++ Lib.strCells s)))
      (w.drew.alloc (.cells (xs.toArray ++ (Lib.strCells s).toArray ++ Builtin.zeroCells z.cells (grownCap w (n + s.size) old E - (n + s.size))) E)) := by
    intro old ho
    have hge := grownCap_ge w (n + s.size) old E
    have hle := grownCap_le_maxLen w (n + s.size) old E (by unfold maxLen; omega)
    refine hw.upd hi (.inr ⟨rfl, rfl, rfl, by simp⟩) fun F hF hf => ⟨fun y hy _ => heap_alloc_old w.drew _ y hy, fun y => y = w.heap.size, fun y hy => .inr (by subst hy; simp), ?_, .inr ⟨w.heap.size, _, (Builtin.zeroCells z.cells (grownCap w (n + s.size) old E - (n + s.size))).toList, rfl, hge, hle, ?_, rfl, fun y hy => hy, ?_⟩⟩
    · rw [List.length_append, hlen, hsl]; omega
    · simp only [List.length_append, hlen, hsl, Array.length_toList, size_zeroCells, hz]; omega
    · have := heap_alloc_new w.drew (.cells (xs.toArray ++ (Lib.strCells s).toArray ++ Builtin.zeroCells z.cells (grownCap w (n + s.size) old E - (n + s.size))) E)
      rw [show w.drew.heap.size = w.heap.size from rfl] at this
      rw [this]
      congr 2
      apply Array.ext'
      simp [List.append_assoc]
  rcases hrow with ⟨rfl, rfl⟩ | ⟨b, cp, sp, rfl, h2, h3, h4, h5⟩
  · have hxs : xs = [] := by simpa using hlen
    subst hxs
    by_cases h0 : s.size = 0
    · have hs0 : Lib.strCells s = [] := List.eq_nil_of_length_eq_zero (by rw [hsl, h0])
      refine ⟨_, w, _, key (v' := .slice none 0 0) ?_, ?_, hk (.slice none 0 0)⟩
      · simp [Builtin.append_, run_underlying ht, run_underlying hu, sizeOf, typeInfo, hinf, Builtin.lenOf, h0, Builtin.firstCells]
      · rw [hs0, h0]
        simpa using hw.upd hi (A' := row E 1 (.slice none 0 0) 0 []) (.inr ⟨rfl, rfl, rfl, Nat.le_refl _⟩) fun F hF hf => ⟨fun _ _ _ => rfl, F, fun x hx => .inl hx, hf⟩
    · have hr := run_append_nil_string (P := P) w t u ty E inf z ht hu hinf hzz s (by omega) (by omega) (by rw [hbt]; omega)
      have hg := grow 0 (by omega)
      simp only [Nat.zero_add, List.nil_append] at hg
      have hk' := hk (.slice (some ⟨w.heap.size, 0, none⟩) s.size (grownCap w s.size 0 E))
      simp only [Nat.zero_add, List.nil_append] at hk'
      refine ⟨_, _, _, key hr, ?_, hk'⟩
      have e : (s.data.map (fun b => Value.int .u8 b.toNat) : Array Value) = ([] : List Value).toArray ++ (Lib.strCells s).toArray := by
        apply Array.ext'
        simp [Lib.strCells]
      rw [e]
      exact hg
  · by_cases hroom : n + s.size ≤ cp
    · have hfit : n + s.size ≤ (xs ++ sp).toArray.size := by rw [List.size_toArray, h4]; omega
      have hr := Lib.run_append_room_string (P := P) (w := w) t u ty E inf ht hu hinf hsz b n cp (xs ++ sp).toArray h5 s hroom hfit
      refine ⟨_, _, _, key hr, ?_, hk _⟩
      refine hw.upd hi (.inr (setRow_grown w b _)) fun F hF hf => ?_
      obtain ⟨_, ⟨hv, _⟩ | ⟨b', c', sp', hv, _, _, _, hFb, hFo, _⟩⟩ := hf
      · simp at hv
      · simp only [Value.slice.injEq, Option.some.injEq, Addr.mk.injEq] at hv
        obtain ⟨⟨rfl, _⟩, _, rfl⟩ := hv
        refine ⟨fun y hy hn => setRow_other w b y _ (fun e => hn (e ▸ hFb)), F, fun y hy => .inl hy, ?_, .inr ⟨b, cp, (xs ++ sp).drop (n + s.size), rfl, hroom, h3, ?_, hFb, hFo, ?_⟩⟩
        · rw [List.length_append, hlen, hsl]; omega
        · rw [List.size_toArray] at hfit
          simp only [List.length_append, List.length_drop, hsl] at h4 hfit ⊢
          omega
        · have := setRow_heap w b _ ((xs ++ sp).take n ++ Lib.strCells s ++ (xs ++ sp).drop (n + s.size)).toArray E (0, 0) h5
          rw [this]
          congr 2
          rw [show n = xs.length by omega, List.take_left']
          rfl
    · have holds : ∀ j u, xs[j]? = some u → w.cell? ((⟨b, 0, none⟩ : Addr).add j) = some u := fun j u hj => by
        have hlt : j < xs.length := (List.getElem?_eq_some_iff.1 hj).1
        rw [Addr.add_lit]
        simp [World.cell?, h5, List.getElem?_append_left hlt, hj]
      have hfit := growslice_fits (need := n + s.size) (old := cp) (bytes := inf.bytes) (by omega) (by rw [hbt]; omega)
      have hr := Lib.run_append_grow_string (P := P) (w := w) t u ty E inf z ht hu hinf hzz ⟨b, 0, none⟩ n cp xs (by rw [hsz]; exact hlen) holds s (by omega) (by omega) hfit
      exact ⟨_, _, _, key hr, grow cp (by omega), hk _⟩

def bldPs (b : Nat) (cs : List Value) (x : Value × Value) : List As := [pt b 98 [x.1, x.2], row 5 1 x.2 cs.length cs, pur (x.1 = .pointer none ∨ x.1 = Ptr b)]
/-- A builder that holds these bytes. -/
def bldA (b : Nat) (cs : List Value) : As := obj (bldPs b cs)

theorem write_c {i b : Nat} {cs : List Value} {s : ByteArray} (hi : l[i]? = some (bldA b cs)) (hm : cs.length + s.size ≤ 140737488355328)
    (h : ∀ r, Run W0 (l.set i (bldA b (cs ++ Lib.strCells s))) (K r)) : Run W0 l (callS P 32 #[Ptr b, .string s] K pn) := by
  refine r32 ?_
  unfold S32
  refine run_open i hi fun x => ?_
  refine run_pur 2 rfl fun hp => ?_
  refine copyCheck_c (i := 0) hp rfl ?_
  try simp only [pureE, pureT, Nat.zero_add, Nat.reduceAdd, Bool.not_false, Bool.not_true]
  refine run_ld sc96 (cl1 (i := 0) rfl rfl) ?_
  refine run_append_str 1 un96 un9 ty5 rfl rfl hm fun v' => ?_
  refine run_row_rd 1 rfl fun hrd => ?_
  obtain ⟨a2, c2, hv2, _, _, _⟩ := hrd.form
  subst hv2
  try simp only [pureE, pureT, Nat.zero_add, Nat.reduceAdd, Bool.not_false, Bool.not_true]
  refine run_st ty96 (i := 0) rfl rfl (by simp [Value.cells, Value.oneCell']) (by simp) ?_
  refine run_setPur 2 (Ptr b = .pointer none ∨ Ptr b = Ptr b) rfl (.inr rfl) ?_
  refine run_to (bldPs b (cs ++ Lib.strCells s) (Ptr b, .slice a2 (cs.length + s.size) c2) ++ l.eraseIdx i) (fun w hw => ?_) (run_shut l i _ hi (h _))
  unfold bldPs
  rw [List.length_append, Lib.strCells_length]
  exact hw

theorem St.freeze {w : World} (h : St W0 l w) {i : Nat} {E sz g n c xs} (hi : l[i]? = some (Proofs.YtkonigmefmgepaaGreatDoor.row E sz (.slice (some ⟨g, 0, none⟩) n c) n xs)) (m : Nat) : St W0 (l.set i (pur True)) (w.freeze ⟨g, 0, none⟩ m) := by
  have hf : ∀ k, k ≠ g → (w.freeze ⟨g, 0, none⟩ m).heap[k]? = w.heap[k]? := by
    intro k hk
    unfold World.freeze
    split
    · rfl
    · simp only [Array.getElem?_modify]; rw [if_neg (fun e => hk e.symm)]
  have hs : (w.freeze ⟨g, 0, none⟩ m).os = w.os ∧ (w.freeze ⟨g, 0, none⟩ m).tape = w.tape ∧ (w.freeze ⟨g, 0, none⟩ m).output = w.output ∧ w.heap.size ≤ (w.freeze ⟨g, 0, none⟩ m).heap.size := by
    unfold World.freeze
    split
    · exact ⟨rfl, rfl, rfl, Nat.le_refl _⟩
    · exact ⟨rfl, rfl, rfl, by simp⟩
  refine h.upd hi (.inr hs) fun F hF ⟨_, hf2⟩ => ⟨fun k hk hn => hf k fun e => ?_, fun _ => False, fun _ hx => hx.elim, trivial⟩
  rcases hf2 with ⟨hv, _⟩ | ⟨b', c', sp, hv, _, _, _, hFb, _⟩
  · simp at hv
  · simp only [Value.slice.injEq, Option.some.injEq, Addr.mk.injEq] at hv
    obtain ⟨⟨rfl, _⟩, _, _⟩ := hv
    exact hn (e ▸ hFb)

def byteC (bs : List UInt8) : List Value := bs.map fun x => Value.int .u8 (x.toNat : Int)
theorem byteC_len (bs : List UInt8) : (byteC bs).length = bs.length := by simp [byteC]
theorem strCells_eq (s : ByteArray) : Lib.strCells s = byteC s.data.toList := rfl

theorem string_c {i b : Nat} {bs : List UInt8} (hi : l[i]? = some (bldA b (byteC bs))) (h0 : bs ≠ []) (h : Run W0 (l.eraseIdx i) (K (.string ⟨bs.toArray⟩))) : Run W0 l (callS P 34 #[Ptr b] K pn) := by
  refine r34 ?_
  unfold S34
  have hpos : 0 < bs.length := List.length_pos_iff.2 h0
  refine run_open i hi fun x => ?_
  refine run_row_cases 1 rfl (fun _ h2 _ => absurd h2 (by rw [byteC_len]; omega)) fun g cp hv hnc hcm hxl => ?_
  obtain ⟨p, v⟩ := x
  simp only at hv
  subst hv
  refine run_draw [pt b 98 [p, .slice (some ⟨g, 0, none⟩) (byteC bs).length cp]] (fun w hw => hw.head) ?_
  try simp only [pureE, pureT, Nat.zero_add, Nat.reduceAdd, Bool.not_false, Bool.not_true]
  refine take_ld sc96 (cl1 (i := 0) rfl rfl) ?_
  refine run_tk (.pointer (some ⟨g, 0, none⟩)) (fun w => ?_) ?_
  · have := Lib.run_unsafeSliceData_row (P := P) (w := w) #[96] 132 ⟨g, 0, none⟩ (byteC bs).length cp (by rw [byteC_len] at hnc; omega)
    simp only [bltN, builtin, Sem.run_bind, this, Result.andThen_ok]; rfl
  refine take_ld sc96 (cl1 (i := 0) rfl rfl) ?_
  refine run_tk _ (fun w => pv_len un96) ?_
  have hce : P.cellsOf 5 = 1 := by kernel_rfl
  refine run_turn fun w hw => ⟨.string ⟨bs.toArray⟩, w.freeze ⟨g, 0, none⟩ bs.length, (bldPs b (byteC bs) (p, .slice (some ⟨g, 0, none⟩) (byteC bs).length cp) ++ l.eraseIdx i).set 1 (pur True), ?_, hw.freeze (i := 1) rfl _, ?_⟩
  · obtain ⟨_, ⟨h1, _⟩ | ⟨b', c', sp, h1, h2, h3, h4, h5⟩⟩ := hw.row (i := 1) (E := 5) (sz := 1) (v := .slice (some ⟨g, 0, none⟩) (byteC bs).length cp) (n := (byteC bs).length) (xs := byteC bs) rfl
    · simp at h1
    simp only [Value.slice.injEq, Option.some.injEq, Addr.mk.injEq] at h1
    obtain ⟨⟨rfl, _⟩, _, rfl⟩ := h1
    have hU := Lib.run_unsafeString_row (P := P) w 132 3 9 5 un132 hce g (byteC bs ++ sp).length (by simp [World.shape?, h5]) bs h0 (by simp [byteC]) (by rw [byteC_len] at hnc; unfold maxLen at hcm; omega) (fun j x hx => by
      rw [Addr.add_lit]
      have : (byteC bs ++ sp)[j]? = some (.int .u8 (x.toNat : Int)) := by
        rw [List.getElem?_append_left (by rw [byteC_len]; exact (List.getElem?_eq_some_iff.1 hx).1)]
        simp [byteC, hx]
      simp [World.cell?, h5, this])
    rw [byteC_len]
    simp only [bltN, builtin, Sem.run_bind, hU, Result.andThen_ok]; rfl
  · refine run_and (fun w hw => hw.head) ?_
    exact run_drop (run_drop (run_drop h))
end
end Go.Proofs.YtkonigmefmgepaaGreatDoor
