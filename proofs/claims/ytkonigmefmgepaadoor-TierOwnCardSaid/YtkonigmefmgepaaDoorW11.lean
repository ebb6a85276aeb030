/- Contracts: the manager's small methods (own work). -/
import Derived.Test.YtkonigmefmgepaaDoorW10
namespace Go.Proofs.YtkonigmefmgepaaDoor
open Go.RowKit
set_option linter.unusedVariables false
set_option linter.unusedSimpArgs false

abbrev FG := M.Fn × Value
def fnG (e : FG) : List Value := fnV e.1 e.2
theorem fnG_len (e : FG) : (fnG e).length = 5 := rfl
theorem fnG_one (e : FG) (h : e.2.oneCell' = true) : ∀ u ∈ fnG e, u.oneCell' = true := by
  intro u hu
  simp only [fnG, fnV, List.mem_cons, List.not_mem_nil, or_false] at hu
  rcases hu with rfl | rfl | rfl | rfl | rfl <;> first | rfl | exact h
def fRow (e : FG) : As := row 51 3 e.2 e.1.l.length (insC e.1.l)
def bV (b : Bool) : List Value := [.bool b]
theorem bV_len (b : Bool) : (bV b).length = 1 := rfl
theorem bV_one (b : Bool) : ∀ u ∈ bV b, u.oneCell' = true := by
  intro u hu
  simp only [bV, List.mem_singleton] at hu
  subst hu; rfl
abbrev PG := Value × List Bool
def pV (e : PG) : List Value := [e.1]
theorem pV_len (e : PG) : (pV e).length = 1 := rfl
def pRow (e : PG) : As := row 4 1 e.1 e.2.length (e.2.flatMap bV)
def evV (e : Int × Int) : List Value := [IV e.1, IV e.2]
theorem evV_len (e : Int × Int) : (evV e).length = 2 := rfl
theorem evV_one (e : Int × Int) : ∀ u ∈ evV e, u.oneCell' = true := by
  intro u hu
  simp only [evV, List.mem_cons, List.not_mem_nil, or_false] at hu
  rcases hu with rfl | rfl <;> rfl
abbrev GG := Int × ((Int × Int) × Nat)
def ggEnt (e : GG) : Ent := (e.1, .agg #[IV e.2.1.1, IV e.2.1.2], e.2.2)
def ggMod (e : GG) : Int × (Int × Int) := (e.1, e.2.1)

/-- What of a manager's memory stays. -/
structure MS where
  cb : Nat
  pb : Nat
  chb : Nat
  cap : Nat
  gb : Nat
  cv : Value
  pv : Value
  fs : List FG
  ps : List PG
/-- What of it turns. -/
structure MD where
  ev : Value
  clk : Nat
  s : Nat
  r : Nat
  gg : List GG
def mgrPs (b : Nat) (t : MS) (s : M.Mgr) (g : MD) : List As :=
  [pt b 60 [Ptr t.cb, t.cv, t.pv, .chan (some t.chb), Ptr t.pb, .map (some t.gb), g.ev], cacheA t.cb s.cache, row 46 5 t.cv t.fs.length (t.fs.flatMap fnG), big (t.fs.map fRow), row 34 1 t.pv t.ps.length (t.ps.flatMap pV), big (t.ps.map pRow),
    ch t.chb t.cap (s.picks.map IV) g.s g.r, profA t.pb s.prof, mp t.gb ((g.gg.map ggEnt).map ent) g.clk, row 44 2 g.ev s.events.length (s.events.flatMap evV), pur (g.gg.map ggMod = s.guards ∧ t.fs.map (·.1) = s.fns ∧ t.ps.map (·.2) = s.pub)]
def mgrA (b : Nat) (t : MS) (s : M.Mgr) : As := obj (mgrPs b t s)

section
variable {W0 : World} {l : List As} {K : Value → C} {pn : Pn}

theorem mgr_fns {i b : Nat} {t : MS} {s : M.Mgr} {c : C} (hi : l[i]? = some (mgrA b t s)) (h : t.fs.map (·.1) = s.fns → t.ps.map (·.2) = s.pub → Rd W0 l 5 t.cv t.fs.length (t.fs.flatMap fnG) → Run W0 l c) : Run W0 l c := by
  refine run_sub_rd (E := 46) (sz := 5) (v := t.cv) (n := t.fs.length) (xs := t.fs.flatMap fnG) (fun w hw => ?_) fun hrd => ?_
  · obtain ⟨g, hg⟩ := hw.open_ hi
    exact ⟨_, 2, hg, rfl⟩
  · intro w hw
    obtain ⟨g, hg⟩ := hw.open_ hi
    obtain ⟨F, _, hp⟩ := hg.get (i := 10) rfl
    exact h hp.2.1 hp.2.2 hrd w hw
theorem mgr_pub {i b : Nat} {t : MS} {s : M.Mgr} {c : C} (hi : l[i]? = some (mgrA b t s)) (h : Rd W0 l 1 t.pv t.ps.length (t.ps.flatMap pV) → Run W0 l c) : Run W0 l c := by
  refine run_sub_rd (E := 34) (fun w hw => ?_) h
  obtain ⟨g, hg⟩ := hw.open_ hi
  exact ⟨_, 4, hg, rfl⟩
theorem mgr_fn {i b k : Nat} {t : MS} {s : M.Mgr} {c : C} {e : FG} (hi : l[i]? = some (mgrA b t s)) (hk : t.fs[k]? = some e) (h : Rd W0 l 3 e.2 e.1.l.length (insC e.1.l) → Run W0 l c) : Run W0 l c := by
  refine run_sub_rd (E := 51) (fun w hw => ?_) h
  obtain ⟨g, hg⟩ := hw.open_ hi
  have h1 := hg.openB (i := 3) rfl
  refine ⟨_, k, h1, ?_⟩
  have : (t.fs.map fRow)[k]? = some (fRow e) := by rw [List.getElem?_map, hk]; rfl
  rw [List.getElem?_append_left (List.getElem?_eq_some_iff.1 this).1, this]
  rfl
theorem mgr_pb {i b k : Nat} {t : MS} {s : M.Mgr} {c : C} {e : PG} (hi : l[i]? = some (mgrA b t s)) (hk : t.ps[k]? = some e) (h : Rd W0 l 1 e.1 e.2.length (e.2.flatMap bV) → Run W0 l c) : Run W0 l c := by
  refine run_sub_rd (E := 4) (fun w hw => ?_) h
  obtain ⟨g, hg⟩ := hw.open_ hi
  have h1 := hg.openB (i := 5) rfl
  refine ⟨_, k, h1, ?_⟩
  have : (t.ps.map pRow)[k]? = some (pRow e) := by rw [List.getElem?_map, hk]; rfl
  rw [List.getElem?_append_left (List.getElem?_eq_some_iff.1 this).1, this]
  rfl
/-- A field that stays. -/
theorem mgr_fld {i b o : Nat} {t : MS} {s : M.Mgr} {v : Value} (hi : l[i]? = some (mgrA b t s)) (hv : ∀ x : Value, [Ptr t.cb, t.cv, t.pv, .chan (some t.chb), Ptr t.pb, .map (some t.gb), x][o]? = some v) : Cls W0 l ⟨b, o, none⟩ [v] := by
  intro w hw
  obtain ⟨g, hg⟩ := hw.open_ hi
  exact cl1 (W0 := W0) (i := 0) (b := b) (T := 60) (l := mgrPs b t s g ++ l.eraseIdx i) rfl (hv g.ev) w hg

theorem params_c {i b fn : Nat} {t : MS} {s : M.Mgr} (hi : l[i]? = some (mgrA b t s)) (hfn : fn < s.fns.length) (h : Run W0 l (K (IV (M.paramsM s fn)))) : Run W0 l (callS P 34 #[Ptr b, IV fn] K pn) := by
  refine r34 ?_
  unfold S34
  refine mgr_fns hi fun hf _ hrd => ?_
  have hfl : t.fs.length = s.fns.length := by rw [← hf, List.length_map]
  obtain ⟨e, he⟩ : ∃ e, t.fs[fn]? = some e := ⟨_, List.getElem?_eq_getElem (by omega)⟩
  have hef : s.fns[fn]? = some e.1 := by rw [← hf, List.getElem?_map, he]; rfl
  try simp only [pureE, pureT, Nat.zero_add, Nat.reduceAdd, Bool.not_false, Bool.not_true]
  refine run_ld sc22 (mgr_fld hi fun x => rfl) ?_
  refine run_rd_idx un22 ty46 fnG_len (by omega) hrd fn he fun b2 o2 hc2 => ?_
  try simp only [pureE, pureT, Nat.zero_add, Nat.reduceAdd, Bool.not_false, Bool.not_true]
  refine run_ld sc3 (hc2.fld (k := 1) rfl) ?_
  try simp only [pureE, pureT, Nat.zero_add, Nat.reduceAdd, Bool.not_false, Bool.not_true]
  unfold M.paramsM at h
  rw [hef] at h
  have : ((M.clamp8 e.1.params).toNat : Int) = min (max e.1.params 0) 8 := by unfold M.clamp8; omega
  simp only [this] at h
  exact h

theorem open_c {i b fn p : Nat} {t : MS} {s : M.Mgr} (hi : l[i]? = some (mgrA b t s)) (h : Run W0 l (K (.bool (M.openM s.pub fn p)))) : Run W0 l (callS P 35 #[Ptr b, IV fn, IV p] K pn) := by
  refine r35 ?_
  unfold S35
  refine mgr_fns hi fun _ hp _ => ?_
  refine mgr_pub hi fun hrd => ?_
  have hpl : t.ps.length = s.pub.length := by rw [← hp, List.length_map]
  obtain ⟨a, c, hv, _, _, _⟩ := hrd.form
  try simp only [pureE, pureT, Nat.zero_add, Nat.reduceAdd, Bool.not_false, Bool.not_true]
  refine run_ld sc25 (mgr_fld hi fun x => rfl) ?_
  rw [hv]
  try simp only [pureE, pureT, Nat.zero_add, Nat.reduceAdd, Bool.not_false, Bool.not_true]
  by_cases h1 : fn < t.ps.length
  · obtain ⟨e, he⟩ : ∃ e, t.ps[fn]? = some e := ⟨_, List.getElem?_eq_getElem h1⟩
    have hep : s.pub[fn]? = some e.2 := by rw [← hp, List.getElem?_map, he]; rfl
    unfold M.openM at h
    simp only [hep] at h
    rw [dec_t (show (fn : Int) < (t.ps.length : Int) by omega)]
    try simp only [pureE, pureT, Nat.zero_add, Nat.reduceAdd, Bool.not_false, Bool.not_true]
    refine run_ld sc25 (mgr_fld hi fun x => rfl) ?_
    refine run_rd_idx un25 ty34 pV_len (by omega) hrd fn he fun b2 o2 hc2 => ?_
    refine run_ld sc34 hc2 ?_
    refine mgr_pb hi he fun hrb => ?_
    obtain ⟨a2, c2, hv2, _, _, _⟩ := hrb.form
    rw [hv2]
    try simp only [pureE, pureT, Nat.zero_add, Nat.reduceAdd, Bool.not_false, Bool.not_true]
    by_cases h2 : p < e.2.length
    · obtain ⟨bb, hbb⟩ : ∃ bb, e.2[p]? = some bb := ⟨_, List.getElem?_eq_getElem h2⟩
      rw [dec_t (show (p : Int) < (e.2.length : Int) by omega)]
      try simp only [pureE, pureT, Nat.zero_add, Nat.reduceAdd, Bool.not_false, Bool.not_true]
      refine run_ld sc25 (mgr_fld hi fun x => rfl) ?_
      refine run_rd_idx un25 ty34 pV_len (by omega) hrd fn he fun b3 o3 hc3 => ?_
      refine run_ld sc34 hc3 ?_
      refine run_rd_idx un34 ty4 bV_len (by omega) hrb p hbb fun b4 o4 hc4 => ?_
      refine run_ld sc4 hc4 ?_
      rw [hbb] at h
      cases bb
      · try simp only [pureE, pureT, Nat.zero_add, Nat.reduceAdd, Bool.not_false, Bool.not_true]
        exact h
      · try simp only [pureE, pureT, Nat.zero_add, Nat.reduceAdd, Bool.not_false, Bool.not_true]
        exact h
    · rw [dec_f (show ¬ (p : Int) < (e.2.length : Int) by omega)]
      rw [List.getElem?_eq_none (by omega)] at h
      try simp only [pureE, pureT, Nat.zero_add, Nat.reduceAdd, Bool.not_false, Bool.not_true]
      exact h
  · rw [dec_f (show ¬ (fn : Int) < (t.ps.length : Int) by omega)]
    unfold M.openM at h
    rw [List.getElem?_eq_none (by omega)] at h
    try simp only [pureE, pureT, Nat.zero_add, Nat.reduceAdd, Bool.not_false, Bool.not_true]
    exact h

theorem note_c {i b : Nat} {t : MS} {s : M.Mgr} {k fn : Int} (hi : l[i]? = some (mgrA b t s)) (he : s.events.length ≤ 4294967295) (h : Run W0 (l.set i (mgrA b t (M.noteM s k fn))) (K (.tuple #[]))) : Run W0 l (callS P 29 #[Ptr b, IV k, IV fn] K pn) := by
  refine r29 ?_
  unfold S29
  refine run_open i hi fun g => ?_
  try simp only [pureE, pureT, Nat.zero_add, Nat.reduceAdd, Bool.not_false, Bool.not_true]
  refine run_ld sc40 (cl1 (i := 0) rfl rfl) ?_
  refine run_nx (.agg #[IV k, IV fn]) (fun w => by kernel_rfl) ?_
  refine run_buildSlice (evV (k, fn)) un40 ty44 (by omega) (by omega) (by kernel_rfl) fun b3 => ?_
  refine run_append 10 un40 ty44 rfl rfl (Rd.pt (i := 0) rfl 2 (by simp [evV])) (evV_one _) (by unfold maxLen; omega) (by omega) (by omega) fun ev' _ => ?_
  refine run_drop ?_
  refine run_row_rd 9 rfl fun hrd => ?_
  obtain ⟨a2, c2, hv2, _, _, _⟩ := hrd.form
  subst hv2
  try simp only [pureE, pureT, Nat.zero_add, Nat.reduceAdd, Bool.not_false, Bool.not_true]
  refine run_st ty40 (i := 0) rfl rfl (by simp [Value.cells, Value.oneCell']) (by simp) ?_
  refine run_to (mgrPs b t (M.noteM s k fn) { g with ev := .slice a2 (s.events.length + 1) c2 } ++ l.eraseIdx i) (fun w hw => ?_) (run_shut l i _ hi h)
  unfold mgrPs M.noteM
  simp only [List.length_append, List.length_singleton, List.flatMap_append, List.flatMap_cons, List.flatMap_nil, List.append_nil]
  exact hw

theorem events_c {i b : Nat} {t : MS} {s : M.Mgr} (hi : l[i]? = some (mgrA b t s)) (he : s.events.length ≤ 4294967295)
    (h : ∀ v', Run W0 (row 44 2 v' s.events.length (s.events.flatMap evV) :: l) (K v')) : Run W0 l (callS P 15 #[Ptr b] K pn) := by
  refine r15 ?_
  unfold S15
  refine run_open i hi fun g => ?_
  try simp only [pureE, pureT, Nat.zero_add, Nat.reduceAdd, Bool.not_false, Bool.not_true]
  refine run_ld sc40 (cl1 (i := 0) rfl rfl) ?_
  refine run_row_rd 9 rfl fun hrd => ?_
  refine cloneEv_c hrd (flat_one evV_one _) (by omega) fun v' _ => ?_
  refine run_shut1 l i g hi ?_
  rw [show l.set i (obj (mgrPs b t s)) = l from row_set_id i hi]
  exact h v'

theorem pick_c {i b : Nat} {t : MS} {s : M.Mgr} (hi : l[i]? = some (mgrA b t s)) (h : Run W0 (l.set i (mgrA b t { s with picks := s.picks.tail })) (K (IV (s.picks.headD 0)))) : Run W0 l (callS P 25 #[Ptr b] K pn) := by
  refine r25 ?_
  unfold S25
  refine run_open i hi fun g => ?_
  try simp only [pureE, pureT, Nat.zero_add, Nat.reduceAdd, Bool.not_false, Bool.not_true]
  refine run_ld sc56 (cl1 (i := 0) rfl rfl) ?_
  cases hp : s.picks with
  | nil =>
    refine run_recv0 ty2 (i := 6) (cap := t.cap) (s := g.s) (r := g.r) (by simp only [mgrPs, hp]; rfl) ?_
    try simp only [pureE, pureT, Nat.zero_add, Nat.reduceAdd, Bool.not_false, Bool.not_true]
    rw [show ((-1 : Int) == 0) = false from rfl]
    try simp only [pureE, pureT, Nat.zero_add, Nat.reduceAdd, Bool.not_false, Bool.not_true]
    rw [hp] at h
    refine run_to (mgrPs b t { s with picks := s.picks.tail } g ++ l.eraseIdx i) (fun w hw => ?_) (run_shut l i _ hi (by rw [hp]; exact h))
    have : ({ s with picks := s.picks.tail } : M.Mgr) = s := by
      cases s; simp only at hp; subst hp; rfl
    rw [this]; exact hw
  | cons x xs =>
    refine run_recv ty2 (i := 6) (cap := t.cap) (buf := xs.map IV) (x := IV x) (s := g.s) (r := g.r) (by simp only [mgrPs, hp]; rfl) fun r' => ?_
    try simp only [pureE, pureT, Nat.zero_add, Nat.reduceAdd, Bool.not_false, Bool.not_true]
    rw [show ((0 : Int) == 0) = true from rfl]
    try simp only [pureE, pureT, Nat.zero_add, Nat.reduceAdd, Bool.not_false, Bool.not_true]
    rw [hp] at h
    refine run_to (mgrPs b t { s with picks := xs } { g with r := r' } ++ l.eraseIdx i) (fun w hw => hw) (run_shut l i _ hi h)
end
end Go.Proofs.YtkonigmefmgepaaDoor
