/- Contracts: the document's manager, its small methods (own work). -/
import Derived.Test.YtkonigmefmgepaaGreatDoorE
import Derived.Test.YtkonigmefmgepaaGreatDoorMR
import Derived.Test.YtkonigmefmgepaaGreatDoorW18
namespace Go.Proofs.YtkonigmefmgepaaGreatDoor
open Go.RowKit
set_option linter.unusedVariables false
set_option linter.unusedSimpArgs false

abbrev AE := Value × List M.Ins
def aRow (a : AE) : As := row 75 3 a.1 a.2.length (insC a.2)
abbrev EG := M.Ent × Value
def entV (e : EG) : List Value := [IV e.1.fn, e.2, .bool e.1.made, IV e.1.param, IV e.1.n]
theorem entV_len (e : EG) : (entV e).length = 5 := rfl
structure RX where
  lv : Value
  pv : Value
  kv : Value
  cv : Value
  ev : Value
  gs : List FG
  es : List EG
  ar : List AE
structure RFacts (W0 : World) (s : M.RM) (x : RX) : Prop where
  fns : x.gs.map (·.1) = s.fns
  cache : x.es.map (·.1) = s.cache
  ga : ∀ g ∈ x.gs, (g.2, g.1.l) ∈ x.ar
  ea : ∀ e ∈ x.es, (e.2, e.1.body) ∈ x.ar
  pub : ∃ ps : List PG, ps.map (·.2) = s.pub ∧ PubRd W0 [] x.pv ps
  picks : Rd W0 [] 1 x.kv s.picks.length (numC s.picks)
abbrev refC (s : M.RM) (x : RX) : List Value := [x.lv, x.pv, IV s.cap, x.kv, x.cv, x.ev]
def refPs (W0 : World) (b : Nat) (s : M.RM) (x : RX) : List As :=
  [pt b 50 (refC s x), row 74 5 x.lv x.gs.length (x.gs.flatMap fnG), row 92 5 x.cv x.es.length (x.es.flatMap entV), row 53 2 x.ev s.events.length (s.events.flatMap evV), big (x.ar.map aRow), pur (RFacts W0 s x)]
def refA (W0 : World) (b : Nat) (s : M.RM) : As := obj (refPs W0 b s)

section
variable {W0 : World} {l : List As} {K : Value → C} {pn : Pn}

theorem run_arr {j : Nat} {ar : List AE} {c : C} (hj : l[j]? = some (big (ar.map aRow))) (h : (∀ a ∈ ar, Rd W0 l 3 a.1 a.2.length (insC a.2)) → Run W0 l c) : Run W0 l c := by
  intro w hw
  refine h (fun e he => ?_) w hw
  have key : ∀ w, St W0 l w → St W0 (ar.map aRow ++ l.eraseIdx j) w := fun w hw => hw.openB hj
  obtain ⟨n, hn, hne⟩ := List.mem_iff_getElem.1 he
  have hj' : (ar.map aRow ++ l.eraseIdx j)[n]? = some (aRow e) := by
    rw [List.getElem?_append_left (by simpa using hn), List.getElem?_map, List.getElem?_eq_getElem hn, hne]; rfl
  have : Rd W0 (ar.map aRow ++ l.eraseIdx j) 3 e.1 e.2.length (insC e.2) := by
    obtain ⟨w2, hw2⟩ : ∃ w2, St W0 (ar.map aRow ++ l.eraseIdx j) w2 := ⟨w, key w hw⟩
    have hrun : Run W0 (ar.map aRow ++ l.eraseIdx j) (fun _ => Rd W0 (ar.map aRow ++ l.eraseIdx j) 3 e.1 e.2.length (insC e.2)) := run_row_rd n hj' fun h _ _ => h
    exact hrun w2 hw2
  exact this.mono key

theorem argR_c {v : Value} {n i : Nat} {args : List Int} (hr : Rd W0 l 1 v n (numC args)) (h : Run W0 l (K (IV (M.argR args i)))) : Run W0 l (callS P 30 #[v, IV i] K pn) := by
  refine r30 ?_
  unfold S30
  have hl : args.length = n := rd_len numV_len (by omega) hr
  obtain ⟨a, c, rfl, _, _, _⟩ := hr.form
  unfold M.argR at h
  rw [Int.toNat_natCast] at h
  try simp only [pureE, pureT, Nat.zero_add, Nat.reduceAdd, Bool.not_false, Bool.not_true]
  by_cases hi : i < n
  · rw [dec_t (show (i : Int) < n by omega)]
    try simp only [pureE, pureT, Nat.zero_add, Nat.reduceAdd, Bool.not_false, Bool.not_true]
    obtain ⟨x, hx⟩ : ∃ x, args[i]? = some x := ⟨_, List.getElem?_eq_getElem (by omega)⟩
    rw [hx] at h
    refine run_rd_idx un26 ty2 numV_len (by omega) hr i hx fun b o hc => ?_
    exact run_ld sc2 hc h
  · rw [dec_f (show ¬ (i : Int) < n by omega)]
    try simp only [pureE, pureT, Nat.zero_add, Nat.reduceAdd, Bool.not_false, Bool.not_true]
    rw [List.getElem?_eq_none (by omega)] at h
    exact h

theorem openR_c {j b fn i : Nat} {s : M.RM} {x : RX} (hj : l[j]? = some (pt b 50 (refC s x))) (hf : RFacts W0 s x) (h : Run W0 l (K (.bool (M.openM s.pub fn i)))) : Run W0 l (callS P 43 #[Ptr b, IV fn, IV i] K pn) := by
  refine r43 ?_
  unfold S43
  obtain ⟨ps, hps, hpr⟩ := hf.pub
  have hpr' : PubRd W0 l x.pv ps := hpr.mono fun w hw => hw.nil
  obtain ⟨ap, cp, hpv, _, _, _⟩ := hpr'.top.form
  have hj' := hj
  simp only [refC, hpv] at hj'
  rw [hpv] at hpr'
  unfold M.openM at h
  rw [← hps, List.getElem?_map] at h
  try simp only [pureE, pureT, Nat.zero_add, Nat.reduceAdd, Bool.not_false, Bool.not_true]
  refine run_ld sc25 (cl1 (i := j) hj' rfl) ?_
  try simp only [pureE, pureT, Nat.zero_add, Nat.reduceAdd, Bool.not_false, Bool.not_true]
  by_cases h1 : fn < ps.length
  case neg =>
    rw [dec_f (show ¬ (fn : Int) < (ps.length : Int) by omega)]
    try simp only [pureE, pureT, Nat.zero_add, Nat.reduceAdd, Bool.not_false, Bool.not_true]
    rw [List.getElem?_eq_none (by omega)] at h
    exact h
  rw [dec_t (show (fn : Int) < (ps.length : Int) by omega)]
  try simp only [pureE, pureT, Nat.zero_add, Nat.reduceAdd, Bool.not_false, Bool.not_true]
  obtain ⟨⟨bv, bs⟩, hbs⟩ : ∃ e, ps[fn]? = some e := ⟨_, List.getElem?_eq_getElem h1⟩
  rw [hbs] at h
  simp only [Option.map_some] at h
  have hbr := hpr'.fns _ (List.mem_of_getElem? hbs)
  simp only at hbr
  obtain ⟨ab, cb, rfl, _, _, _⟩ := hbr.form
  refine run_ld sc25 (cl1 (i := j) hj' rfl) ?_
  refine run_rd_idx un25 ty56 pV_len (by omega) hpr'.top fn hbs fun b2 o2 hc2 => ?_
  refine run_ld sc56 hc2 ?_
  try simp only [pureE, pureT, Nat.zero_add, Nat.reduceAdd, Bool.not_false, Bool.not_true]
  by_cases h2 : i < bs.length
  case neg =>
    rw [dec_f (show ¬ (i : Int) < (bs.length : Int) by omega)]
    try simp only [pureE, pureT, Nat.zero_add, Nat.reduceAdd, Bool.not_false, Bool.not_true]
    rw [List.getElem?_eq_none (by omega)] at h
    exact h
  rw [dec_t (show (i : Int) < (bs.length : Int) by omega)]
  try simp only [pureE, pureT, Nat.zero_add, Nat.reduceAdd, Bool.not_false, Bool.not_true]
  obtain ⟨bb, hbb⟩ : ∃ bb, bs[i]? = some bb := ⟨_, List.getElem?_eq_getElem h2⟩
  rw [hbb] at h
  refine run_ld sc25 (cl1 (i := j) hj' rfl) ?_
  refine run_rd_idx un25 ty56 pV_len (by omega) hpr'.top fn hbs fun b3 o3 hc3 => ?_
  refine run_ld sc56 hc3 ?_
  refine run_rd_idx un56 ty4 bV_len (by omega) hbr i hbb fun b4 o4 hc4 => ?_
  refine run_ld sc4 hc4 ?_
  try simp only [pureE, pureT, Nat.zero_add, Nat.reduceAdd, Bool.not_false, Bool.not_true]
  exact h

theorem look_at {cs : List M.Ent} {s : Nat} {fn : Int} {e : M.Ent} (hp : ∀ j e, cs[j]? = some e → j < s → e.fn ≠ fn) (he : cs[s]? = some e) (hf : e.fn = fn) : M.lookR cs fn = some e := by
  have h : cs = cs.take s ++ e :: cs.drop (s + 1) := by
    obtain ⟨hlt, rfl⟩ := List.getElem?_eq_some_iff.1 he
    rw [← List.drop_eq_getElem_cons hlt, List.take_append_drop]
  unfold M.lookR
  rw [h, List.find?_append]
  have : (cs.take s).find? (fun e => e.fn == fn) = none := by
    rw [List.find?_eq_none]
    intro x hx
    obtain ⟨j, hj, hjx⟩ := List.mem_iff_getElem.1 hx
    rw [List.length_take] at hj
    have := hp j x (by rw [← hjx, List.getElem_take]; exact List.getElem?_eq_getElem (by omega)) (by omega)
    simpa using this
  rw [this]
  simp [hf]

theorem findR_c {j k b : Nat} {fn : Int} {s : M.RM} {x : RX} (hj : l[j]? = some (pt b 50 (refC s x))) (hk : l[k]? = some (row 92 5 x.cv x.es.length (x.es.flatMap entV))) (hf : RFacts W0 s x) (hn : x.es.length ≤ 4294967296)
    (hs : ∀ (i : Nat) e, x.es[i]? = some e → e.1.fn = fn → M.lookR s.cache fn = some e.1 → Run W0 l (K (IV i)))
    (hno : M.lookR s.cache fn = none → Run W0 l (K (IV (-1)))) : Run W0 l (callS P 27 #[Ptr b, IV fn] K pn) := by
  refine r27 ?_
  unfold S27
  refine run_row_rd k hk fun hrd => ?_
  obtain ⟨ac, cc, hcv, _, _, _⟩ := hrd.form
  have hj' := hj
  simp only [refC, hcv] at hj'
  rw [hcv] at hrd
  refine run_loop (Inv := fun i : Nat => i ≤ x.es.length ∧ ∀ (j : Nat) e, x.es[j]? = some e → j < i → e.1.fn ≠ fn) (J := fun i => [Ptr b, IV fn, IV i]) (H := fun _ => l) (μ := fun i => x.es.length - i) 0 ⟨by omega, fun j e _ hj => absurd hj (by omega)⟩ rfl (fun _ hw => hw) ?_
  rintro i e ⟨hi, hp⟩ he
  simp only [List.map_cons, List.map_nil, List.cons.injEq, and_true] at he
  obtain ⟨e0, e1, e5⟩ := he
  unfold S27_l1
  simp only [e0, e1, e5]
  try simp only [pureE, pureT, Nat.zero_add, Nat.reduceAdd, Bool.not_false, Bool.not_true]
  refine run_ld sc47 (cl1 (i := j) hj' rfl) ?_
  try simp only [pureE, pureT, Nat.zero_add, Nat.reduceAdd, Bool.not_false, Bool.not_true]
  by_cases hlt : i < x.es.length
  · rw [dec_t (show (i : Int) < x.es.length by omega)]
    try simp only [pureE, pureT, Nat.zero_add, Nat.reduceAdd, Bool.not_false, Bool.not_true]
    obtain ⟨y, hy⟩ : ∃ y, x.es[i]? = some y := ⟨_, List.getElem?_eq_getElem hlt⟩
    refine run_ld sc47 (cl1 (i := j) hj' rfl) ?_
    refine run_rd_idx un47 ty92 entV_len (by omega) hrd i hy fun b2 o2 hc2 => ?_
    try simp only [pureE, pureT, Nat.zero_add, Nat.reduceAdd, Bool.not_false, Bool.not_true]
    refine run_ld sc3 (hc2.fld (k := 0) rfl) ?_
    try simp only [pureE, pureT, Nat.zero_add, Nat.reduceAdd, Bool.not_false, Bool.not_true]
    cases hq : y.1.fn == fn
    · try simp only [pureE, pureT, Nat.zero_add, Nat.reduceAdd, Bool.not_false, Bool.not_true]
      rw [wrN (x := (i : Int) + 1) (i + 1) (by omega) (by omega)]
      refine fun w hw => ⟨i + 1, by omega, ⟨by omega, fun j' e' he' hj' => ?_⟩, rfl, hw⟩
      rcases Nat.lt_succ_iff_lt_or_eq.1 hj' with h1 | rfl
      · exact hp j' e' he' h1
      · rw [hy] at he'
        simp only [Option.some.injEq] at he'
        subst he'
        simpa using hq
    · try simp only [pureE, pureT, Nat.zero_add, Nat.reduceAdd, Bool.not_false, Bool.not_true]
      have hq' : y.1.fn = fn := by simpa using hq
      refine hs i y hy hq' ?_
      refine look_at (s := i) (fun j' e' he' hj' => ?_) ?_ hq'
      · rw [← hf.cache, List.getElem?_map] at he'
        cases hz : x.es[j']? with
        | none => rw [hz] at he'; simp at he'
        | some z =>
          rw [hz] at he'
          simp only [Option.map_some, Option.some.injEq] at he'
          subst he'
          exact hp j' z hz hj'
      · rw [← hf.cache, List.getElem?_map, hy]
        rfl
  · rw [dec_f (show ¬ (i : Int) < x.es.length by omega)]
    try simp only [pureE, pureT, Nat.zero_add, Nat.reduceAdd, Bool.not_false, Bool.not_true]
    refine hno ?_
    unfold M.lookR
    rw [List.find?_eq_none]
    intro z hz
    rw [← hf.cache] at hz
    obtain ⟨y, hy, rfl⟩ := List.mem_map.1 hz
    obtain ⟨j', hj', hjy⟩ := List.mem_iff_getElem.1 hy
    have := hp j' y (by rw [← hjy]; exact List.getElem?_eq_getElem hj') (by omega)
    simpa using this
end
end Go.Proofs.YtkonigmefmgepaaGreatDoor
