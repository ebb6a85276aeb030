/- Contracts: a call (own work). -/
import Derived.Test.YtkonigmefmgepaaDoorW13
namespace Go.Proofs.YtkonigmefmgepaaDoor
open Go.RowKit
set_option linter.unusedVariables false
set_option linter.unusedSimpArgs false

section
variable {W0 : World} {l : List As} {K : Value → C} {pn : Pn}

/-- The cache of a manager, asked. -/
theorem mgr_get {i b : Nat} {t : MS} {s : M.Mgr} {fn : Int} (hi : l[i]? = some (mgrA b t s)) (hb : ∀ e ∈ s.cache.bodies, e.2.length ≤ 4294967296)
    (h : ∀ v', Run W0 (row 51 3 v' (s.cache.get fn).length (insC (s.cache.get fn)) :: l) (K (.tuple #[v', .bool (s.cache.has fn)]))) : Run W0 l (callS P 24 #[Ptr t.cb, IV fn] K pn) := by
  refine run_open i hi fun g => ?_
  refine get_c (i := 1) rfl hb fun v' => ?_
  refine run_shut1 l i g hi ?_
  rw [show l.set i (obj (mgrPs b t s)) = l from row_set_id i hi]
  exact h v'
/-- The guards of a manager, asked. -/
theorem mgr_guard {i b : Nat} {t : MS} {s : M.Mgr} {fn : Int} (hi : l[i]? = some (mgrA b t s))
    (h : Run W0 l (K (.tuple #[((M.aget fn s.guards).map fun x => Value.agg #[IV x.1, IV x.2]).getD (.agg #[IV 0, IV 0]), .bool (M.aget fn s.guards).isSome]))) :
    Run W0 l (nextS P (V (Instr.lookup 57 (.map (some t.gb)) (IV fn) true)) K pn) := by
  refine run_open i hi fun g => ?_
  refine run_pur 10 rfl fun hg => ?_
  refine run_lookup un57 un3 ty75 (i := 8) rfl ?_
  rw [if_pos rfl]
  refine run_shut l i g hi ?_
  rw [show l.set i (obj (mgrPs b t s)) = l from row_set_id i hi]
  have h1 := ggmget fn g.gg
  have h2 := ggaget fn g.gg
  rw [hg.1] at h2
  rw [h2] at h
  rw [h1]
  cases hq : M.aget fn g.gg with
  | none => rw [hq] at h; exact h
  | some x => rw [hq] at h; exact h

theorem end_c {i b m : Nat} {t : MS} {s : M.Mgr} {fn : Int} {charge : Int} {ov : Value} {own : List Int} (hi : l[i]? = some (mgrA b t s)) (hr : Rd W0 l 1 ov m (numC own)) (hb : ∀ e ∈ s.cache.bodies, e.2.length ≤ 4294967296) (hev : s.events.length ≤ 4294967295)
    (hg : ∀ g, M.aget fn s.guards = some g → 0 ≤ g.1 ∧ g.1.toNat < own.length)
    (h : ∀ v', Run W0 (row 51 3 v' (M.endM s fn own charge).1.1.length (insC (M.endM s fn own charge).1.1) :: l.set i (mgrA b t (M.endM s fn own charge).2))
      (K (.tuple #[v', .bool (M.endM s fn own charge).1.2.1, IV (M.endM s fn own charge).1.2.2]))) : Run W0 l (S12_k1 K pn (Ptr b) (IV fn) (IV charge) ov) := by
  unfold S12_k1
  try simp only [pureE, pureT, Nat.zero_add, Nat.reduceAdd, Bool.not_false, Bool.not_true]
  refine run_ld sc54 (mgr_fld hi fun x => rfl) ?_
  refine mgr_get hi hb fun v' => ?_
  have hi1 : ∀ A, (A :: l)[i + 1]? = some (mgrA b t s) := fun A => by simpa using hi
  try simp only [pureE, pureT, Nat.zero_add, Nat.reduceAdd, Bool.not_false, Bool.not_true]
  refine run_ld sc57 (mgr_fld (hi1 _) fun x => rfl) ?_
  refine mgr_guard (hi1 _) ?_
  try simp only [pureE, pureT, Nat.zero_add, Nat.reduceAdd, Bool.not_false, Bool.not_true]
  refine run_alloc ty75 fun bg => ?_
  obtain ⟨gp, gn, hgv, hgs⟩ : ∃ gp gn, ((M.aget fn s.guards).map fun x => Value.agg #[IV x.1, IV x.2]).getD (.agg #[IV 0, IV 0]) = .agg #[IV gp, IV gn] ∧ (∀ g, M.aget fn s.guards = some g → g = (gp, gn)) := by
    cases hq : M.aget fn s.guards with
    | none => exact ⟨0, 0, rfl, fun g hg => by simp at hg⟩
    | some g => exact ⟨g.1, g.2, rfl, fun g' hg => by simp at hg; exact hg.symm⟩
  rw [hgv]
  refine run_st ty75 (i := 0) rfl rfl (by simp [Value.cells, Value.oneCell']) (by simp [Value.cells]) ?_
  refine run_to (pt bg 75 [IV gp, IV gn] :: row 51 3 v' (s.cache.get fn).length (insC (s.cache.get fn)) :: l) (fun w hw => hw) ?_
  have hi2 : (pt bg 75 [IV gp, IV gn] :: row 51 3 v' (s.cache.get fn).length (insC (s.cache.get fn)) :: l)[i + 2]? = some (mgrA b t s) := by simpa using hi
  unfold M.endM at h
  cases hh : s.cache.has fn
  · rw [hh] at h
    simp only [Bool.false_eq_true, if_false] at h
    try simp only [pureE, pureT, Nat.zero_add, Nat.reduceAdd, Bool.not_false, Bool.not_true]
    refine run_drop (run_drop (run_rowNil 51 3 ?_))
    have := h (.slice none 0 0)
    rw [row_set_id i hi] at this
    exact this
  rw [hh] at h
  simp only [if_true] at h
  try simp only [pureE, pureT, Nat.zero_add, Nat.reduceAdd, Bool.not_false, Bool.not_true]
  refine run_draw (pt bg 75 [IV gp, IV gn] :: row 51 3 v' (s.cache.get fn).length (insC (s.cache.get fn)) :: l) (fun w hw => hw) ?_
  have good : M.guardBad s fn own = false → Run W0 (pt bg 75 [IV gp, IV gn] :: row 51 3 v' (s.cache.get fn).length (insC (s.cache.get fn)) :: l) (callS P 29 #[Ptr b, IV 2, IV fn] (fun _ => K (.tuple #[v', .bool true, IV charge])) pn) := by
    intro hq
    rw [hq] at h
    simp only [Bool.false_eq_true, if_false] at h
    refine note_c hi2 hev ?_
    exact run_drop (h v')
  cases hq : M.aget fn s.guards with
  | none =>
    try simp only [pureE, pureT, Nat.zero_add, Nat.reduceAdd, Bool.not_false, Bool.not_true]
    rw [show (none : Option (Int × Int)).isSome = false from rfl]
    try simp only [pureE, pureT, Nat.zero_add, Nat.reduceAdd, Bool.not_false, Bool.not_true]
    exact good (by unfold M.guardBad; rw [hq])
  | some g =>
    have hgg := hgs g hq
    obtain ⟨h0, h1⟩ := hg g hq
    subst hgg
    obtain ⟨gk, rfl⟩ : ∃ gk : Nat, gp = (gk : Int) := ⟨gp.toNat, by simp only at h0; omega⟩
    simp only [Int.toNat_natCast] at h1
    try simp only [pureE, pureT, Nat.zero_add, Nat.reduceAdd, Bool.not_false, Bool.not_true]
    rw [show (some ((gk : Int), gn)).isSome = true from rfl]
    try simp only [pureE, pureT, Nat.zero_add, Nat.reduceAdd, Bool.not_false, Bool.not_true]
    refine take_ld sc3 (cl1 (i := 0) rfl rfl) ?_
    obtain ⟨x, hx⟩ : ∃ x, own[gk]? = some x := ⟨_, List.getElem?_eq_getElem h1⟩
    have hr2 : Rd W0 (pt bg 75 [IV gk, IV gn] :: row 51 3 v' (s.cache.get fn).length (insC (s.cache.get fn)) :: l) 1 ov m (numC own) := hr.mono fun _ hw => hw.tail.tail
    refine run_rd_idxP un26 ty2 numV_len (by omega) hr2 gk hx fun b2 o2 hc2 => ?_
    refine take_ld sc2 hc2 ?_
    try simp only [pureE, pureT, Nat.zero_add, Nat.reduceAdd, Bool.not_false, Bool.not_true]
    refine take_ld sc2 (cl1 (i := 0) rfl rfl) ?_
    try simp only [pureE, pureT, Nat.zero_add, Nat.reduceAdd, Bool.not_false, Bool.not_true]
    cases hne : x != gn
    · try simp only [pureE, pureT, Nat.zero_add, Nat.reduceAdd, Bool.not_false, Bool.not_true]
      have : M.guardBad s fn own = false := by unfold M.guardBad; rw [hq]; simp only [Int.toNat_natCast]; rw [hx]; exact hne
      have := good this
      exact this
    · have hbad : M.guardBad s fn own = true := by unfold M.guardBad; rw [hq]; simp only [Int.toNat_natCast]; rw [hx]; exact hne
      rw [hbad] at h
      simp only [if_true] at h
      try simp only [pureE, pureT, Nat.zero_add, Nat.reduceAdd, Bool.not_false, Bool.not_true]
      refine note_c (i := i + 2) (s := s) (by simpa using hi) hev ?_
      refine run_drop (run_drop (run_rowNil 51 3 ?_))
      exact h (.slice none 0 0)

theorem enter_c {i b m : Nat} {t : MS} {s : M.Mgr} {fn : Int} {av : Value} {args : List Int} (hi : l[i]? = some (mgrA b t s)) (hr : Rd W0 l 1 av m (numC args)) (ok : M.Ok s) (hev : s.events.length ≤ 4294967000)
    (h : ∀ v', Run W0 (row 51 3 v' (M.enterM s fn args).1.1.length (insC (M.enterM s fn args).1.1) :: l.set i (mgrA b t (M.enterM s fn args).2))
      (K (.tuple #[v', .bool (M.enterM s fn args).1.2.1, IV (M.enterM s fn args).1.2.2]))) : Run W0 l (callS P 12 #[Ptr b, IV fn, av] K pn) := by
  refine r12 ?_
  unfold S12
  have out : (decide (fn < 1) || decide ((s.fns.length : Int) ≤ fn)) = true → Run W0 l (K (.tuple #[.slice none 0 0, .bool false, IV 0])) := by
    intro hq
    unfold M.enterM at h
    rw [if_pos hq] at h
    refine run_rowNil 51 3 ?_
    have := h (.slice none 0 0)
    rw [row_set_id i hi] at this
    exact this
  try simp only [pureE, pureT, Nat.zero_add, Nat.reduceAdd, Bool.not_false, Bool.not_true]
  cases h1 : decide (fn < 1)
  case true =>
    try simp only [pureE, pureT, Nat.zero_add, Nat.reduceAdd, Bool.not_false, Bool.not_true]
    exact out (by rw [h1]; rfl)
  refine mgr_fns hi fun hfs _ hrd => ?_
  have hfl : t.fs.length = s.fns.length := by rw [← hfs, List.length_map]
  obtain ⟨a, c, hv, _, _, _⟩ := hrd.form
  try simp only [pureE, pureT, Nat.zero_add, Nat.reduceAdd, Bool.not_false, Bool.not_true]
  refine run_ld sc22 (mgr_fld hi fun x => rfl) ?_
  rw [hv]
  try simp only [pureE, pureT, Nat.zero_add, Nat.reduceAdd, Bool.not_false, Bool.not_true]
  rw [hfl]
  cases h2 : decide ((s.fns.length : Int) ≤ fn)
  case true =>
    try simp only [pureE, pureT, Nat.zero_add, Nat.reduceAdd, Bool.not_false, Bool.not_true]
    exact out (by rw [h1, h2]; rfl)
  try simp only [pureE, pureT, Nat.zero_add, Nat.reduceAdd, Bool.not_false, Bool.not_true]
  simp only [decide_eq_false_iff_not] at h1 h2
  obtain ⟨k, rfl⟩ : ∃ k : Nat, fn = (k : Int) := ⟨fn.toNat, by omega⟩
  have hk : k < s.fns.length := by omega
  unfold M.enterM at h
  rw [if_neg (by simp only [Bool.or_eq_true, decide_eq_true_eq]; omega)] at h
  simp only [Int.toNat_natCast] at h
  obtain ⟨f, hf⟩ : ∃ f, s.fns[k]? = some f := ⟨_, List.getElem?_eq_getElem hk⟩
  obtain ⟨p, hp, hpp⟩ := ok.prof k f hf
  have hk8 : M.paramsM s k ≤ 8 := by unfold M.paramsM M.clamp8; split <;> omega
  have hkp : ((M.paramsM s k : Nat) : Int) = M.clamp8 f.params := by unfold M.paramsM M.clamp8; rw [hf]; simp only; omega
  have hol : (M.seenM s k args).length = M.paramsM s k := by simp [M.seenM]
  refine seen_c hi hk hr fun ov => ?_
  have ok2 := ok.see k args
  have hs2 : (M.seeM s k args).cache = s.cache := rfl
  generalize hown : M.seenM s k args = own at *
  have hi1 : (row 2 1 ov (M.paramsM s k) (numC own) :: l)[i + 1]? = some (mgrA b t s) := by simpa using hi
  refine run_ld sc58 (mgr_fld hi1 fun x => rfl) ?_
  refine run_open (i + 1) hi1 fun g => ?_
  refine run_row_rd2 11 ((mgrPs b t s g ++ (row 2 1 ov (M.paramsM s k) (numC own) :: l).eraseIdx (i + 1)).eraseIdx 7) 10 rfl rfl fun hrO => ?_
  refine see_c (i := 7) rfl hp (by rw [hpp, ← hkp, hol]) (by omega) ok.nf hrO ?_
  refine run_to (mgrPs b t { s with prof := M.seeP s.prof k own } g ++ (row 2 1 ov (M.paramsM s k) (numC own) :: l).eraseIdx (i + 1)) (fun w hw => hw) (run_shut _ (i + 1) _ hi1 ?_)
  refine run_to (row 2 1 ov (M.paramsM s k) (numC own) :: l.set i (mgrA b t { s with prof := M.seeP s.prof k own })) (fun w hw => hw) ?_
  have hi2 : (row 2 1 ov (M.paramsM s k) (numC own) :: l.set i (mgrA b t { s with prof := M.seeP s.prof k own }))[i + 1]? = some (mgrA b t { s with prof := M.seeP s.prof k own }) := by simpa using set_get hi
  try simp only [pureE, pureT, Nat.zero_add, Nat.reduceAdd, Bool.not_false, Bool.not_true]
  refine run_ld sc54 (mgr_fld hi2 fun x => rfl) ?_
  refine mgr_get hi2 ok.bodies fun vx => ?_
  refine run_drop ?_
  try simp only [pureE, pureT, Nat.zero_add, Nat.reduceAdd, Bool.not_false, Bool.not_true]
  refine pick_c hi2 ?_
  refine run_to (row 2 1 ov (M.paramsM s k) (numC own) :: l.set i (mgrA b t (M.seeM s k args))) (fun w hw => ?_) ?_
  · have e : M.seeM s k args = { s with prof := M.seeP s.prof k own, picks := s.picks.tail } := by unfold M.seeM; rw [hown]
    rw [e]
    simpa [List.set_set] using hw
  have hi3 : (row 2 1 ov (M.paramsM s k) (numC own) :: l.set i (mgrA b t (M.seeM s k args)))[i + 1]? = some (mgrA b t (M.seeM s k args)) := by simpa using set_get hi
  have hf3 : (M.seeM s k args).fns[k]? = some f := hf
  obtain ⟨p3, hp3, hpp3⟩ := ok2.prof k f hf3
  have hev3 : (M.seeM s k args).events = s.events := rfl
  have hpm3 : M.paramsM (M.seeM s k args) k = M.paramsM s k := rfl
  simp only
  have hcache : (⟨s.cache, s.fns, s.pub, s.picks, M.seeP s.prof k own, s.guards, s.events⟩ : M.Mgr).cache = (M.seeM s k args).cache := rfl
  rw [show ({ s with prof := M.seeP s.prof k own } : M.Mgr).cache.has (k : Int) = (M.seeM s k args).cache.has k from rfl]
  generalize hpk : s.picks.headD 0 = pk at *
  generalize hS : M.seeM s k args = s2 at *
  have fin : ∀ (ch : Int) (s3 : M.Mgr), M.midM s2 k pk = (ch, s3) → Run W0 (row 2 1 ov (M.paramsM s k) (numC own) :: l.set i (mgrA b t s3)) (S12_k1 K pn (Ptr b) (IV k) (IV ch) ov) := by
    intro ch s3 hm
    rw [hm] at h
    have ok3 : M.Ok s3 := by have := ok2.mid k pk; rw [hm] at this; exact this
    have hme := M.midM_ev s2 k pk
    rw [hm] at hme
    simp only [hev3] at hme
    refine run_row_rd 0 rfl fun hrO2 => ?_
    refine end_c (i := i + 1) (by simpa using set_get hi) hrO2 ok3.bodies (by omega) (fun g hg => ?_) fun v' => ?_
    · obtain ⟨j, hj⟩ := M.aget_mem hg
      have := ok3.guards _ (List.mem_of_getElem? hj)
      refine ⟨this.1, ?_⟩
      have h4 := this.2
      simp only [Int.toNat_natCast] at h4
      rw [hol, ← hpm3]
      have e : M.paramsM s3 k = M.paramsM s2 k := by unfold M.paramsM; rw [hme.2]
      rw [← e]; exact h4
    · refine run_to (row 51 3 v' (M.endM s3 k own ch).1.1.length (insC (M.endM s3 k own ch).1.1) :: l.set i (mgrA b t (M.endM s3 k own ch).2)) (fun w hw => ?_) (h v')
      have := hw.erase 1
      simpa [List.set_set] using this
  unfold M.midM at fin
  have comp : ((pk == 1 || pk == 2) && !s2.cache.has k) = true → Run W0 (row 2 1 ov (M.paramsM s k) (numC own) :: l.set i (mgrA b t s2)) (callS P 26 #[Ptr b, IV k, IV pk] (fun x63 => S12_k1 K pn (Ptr b) (IV k) x63 ov) pn) := by
    intro hq
    rw [if_pos hq] at fin
    refine compiles_c hi3 hf3 hp3 hpp3 (ok2.len f (List.mem_of_getElem? hf3)) (by rw [hev3]; omega) (by have := ok2.order; rw [hev3] at this; omega) ok2.cap ?_
    refine run_to (row 2 1 ov (M.paramsM s k) (numC own) :: l.set i (mgrA b t (M.compilesM s2 k pk))) (fun w hw => by simpa [List.set_set] using hw) ?_
    exact fin _ _ rfl
  have comp2 : ((pk == 1 || pk == 2) && !s2.cache.has k) = false → Run W0 (row 2 1 ov (M.paramsM s k) (numC own) :: l.set i (mgrA b t s2))
      (grdS (.bool (pk == 3)) true (fun K => K (.bool (s2.cache.has k))) fun x68 => nextS P (pickN (.bool (pk == 3)) x68 (Value.bool false)) (fun x69 => condS x69
        (nextS P (V (Instr.loadAt 54 (Ptr b))) (fun x73 => callS P 27 #[x73, IV k] (fun _ => callS P 28 #[Ptr b, IV k] (fun _ => S12_k1 K pn (Ptr b) (IV k) (IV 0) ov) pn) pn) pn)
        (S12_k1 K pn (Ptr b) (IV k) (IV 0) ov)) pn) := by
    intro hq
    rw [if_neg (by rw [hq]; simp)] at fin
    try simp only [pureE, pureT, Nat.zero_add, Nat.reduceAdd, Bool.not_false, Bool.not_true]
    cases h3 : pk == 3
    · rw [h3] at fin
      try simp only [pureE, pureT, Nat.zero_add, Nat.reduceAdd, Bool.not_false, Bool.not_true]
      exact fin _ _ (by simp)
    rw [h3] at fin
    try simp only [pureE, pureT, Nat.zero_add, Nat.reduceAdd, Bool.not_false, Bool.not_true]
    cases hh : s2.cache.has k
    · rw [hh] at fin
      try simp only [pureE, pureT, Nat.zero_add, Nat.reduceAdd, Bool.not_false, Bool.not_true]
      exact fin _ _ (by simp)
    rw [hh] at fin
    try simp only [pureE, pureT, Nat.zero_add, Nat.reduceAdd, Bool.not_false, Bool.not_true]
    refine run_ld sc54 (mgr_fld hi3 fun x => rfl) ?_
    refine run_open (i + 1) hi3 fun g3 => ?_
    refine drop_c (i := 1) rfl (by have := ok2.order; rw [hev3] at this; omega) ?_
    refine run_to (mgrPs b t { s2 with cache := s2.cache.drop k } g3 ++ (row 2 1 ov (M.paramsM s k) (numC own) :: l.set i (mgrA b t s2)).eraseIdx (i + 1)) (fun w hw => hw) (run_shut _ (i + 1) _ hi3 ?_)
    refine run_to (row 2 1 ov (M.paramsM s k) (numC own) :: l.set i (mgrA b t { s2 with cache := s2.cache.drop k })) (fun w hw => by
      have h9 := hw
      simp only [List.set_cons_succ, List.set_set] at h9
      exact h9) ?_
    refine gone_c (i := i + 1) (s := { s2 with cache := s2.cache.drop k }) (by simpa using set_get hi) (by show s2.events.length ≤ _; rw [hev3]; omega) ?_
    refine run_to (row 2 1 ov (M.paramsM s k) (numC own) :: l.set i (mgrA b t (M.goneM { s2 with cache := s2.cache.drop k } k))) (fun w hw => by simpa [List.set_set] using hw) ?_
    exact fin _ _ (by simp)
  try simp only [pureE, pureT, Nat.zero_add, Nat.reduceAdd, Bool.not_false, Bool.not_true]
  cases hp1 : pk == 1
  · rw [hp1] at comp comp2
    try simp only [pureE, pureT, Nat.zero_add, Nat.reduceAdd, Bool.not_false, Bool.not_true]
    cases hp2 : pk == 2
    · rw [hp2] at comp comp2
      try simp only [pureE, pureT, Nat.zero_add, Nat.reduceAdd, Bool.not_false, Bool.not_true]
      exact comp2 rfl
    rw [hp2] at comp comp2
    try simp only [pureE, pureT, Nat.zero_add, Nat.reduceAdd, Bool.not_false, Bool.not_true]
    cases hh : s2.cache.has k
    · rw [hh] at comp
      try simp only [pureE, pureT, Nat.zero_add, Nat.reduceAdd, Bool.not_false, Bool.not_true]
      exact comp rfl
    · try simp only [pureE, pureT, Nat.zero_add, Nat.reduceAdd, Bool.not_false, Bool.not_true]
      have := comp2 (by rw [hh]; rfl)
      rw [hh] at this
      exact this
  · rw [hp1] at comp comp2
    try simp only [pureE, pureT, Nat.zero_add, Nat.reduceAdd, Bool.not_false, Bool.not_true]
    cases hh : s2.cache.has k
    · rw [hh] at comp
      try simp only [pureE, pureT, Nat.zero_add, Nat.reduceAdd, Bool.not_false, Bool.not_true]
      exact comp rfl
    · try simp only [pureE, pureT, Nat.zero_add, Nat.reduceAdd, Bool.not_false, Bool.not_true]
      have := comp2 (by rw [hh]; rfl)
      rw [hh] at this
      exact this
end
end Go.Proofs.YtkonigmefmgepaaDoor
