/- Contracts: the document's manager notes, and throws away (own work). -/
import Derived.Test.YtkonigmefmgepaaGreatDoorN
namespace Go.Proofs.YtkonigmefmgepaaGreatDoor
open Go.RowKit
set_option linter.unusedVariables false
set_option linter.unusedSimpArgs false

section
variable {W0 : World} {l : List As} {K : Value → C} {pn : Pn}

theorem St.one {A : As} {i : Nat} (hi : l[i]? = some A) : ∀ w, St W0 l w → St W0 [A] w := fun w hw => by
  obtain ⟨F, hF, hA⟩ := hw.get hi
  exact ⟨hw.below, F, hF, F, fun _ => False, fun _ h => h, fun _ h => h.elim, fun _ _ h => h, hA, trivial⟩
theorem St.weak {A A' : As} {i : Nat} {w : World} (hw : St W0 l w) (hi : l[i]? = some A) (hA : ∀ F w, A.f F w → A'.f F w) : St W0 (l.set i A') w :=
  hw.upd hi (.inr ⟨rfl, rfl, rfl, Nat.le_refl _⟩) fun F hF ha => ⟨fun _ _ _ => rfl, F, fun b hb => .inl hb, hA F w ha⟩
theorem clx {i b o : Nat} {T : TypeId} {cs : Value → List Value} {v : Value} (hi : l[i]? = some (aex fun ev => pt b T (cs ev))) (hv : ∀ ev, (cs ev)[o]? = some v) : Cls W0 l ⟨b, o, none⟩ [v] := by
  intro w hw j u hj
  obtain ⟨F, hF, ev, h1, h2, h3⟩ := hw.get hi
  cases j with
  | zero =>
    simp only [List.getElem?_cons_zero, Option.some.injEq] at hj
    subst hj
    rw [Addr.add_lit]
    simp [World.cell?, h3, hv ev]
  | succ j => simp at hj

theorem noteR_c {b : Nat} {s : M.RM} {x : RX} {k fn : Int} (hf : RFacts W0 s x) (he : s.events.length ≤ 4294967200)
    (h : ∀ ev', RFacts W0 (M.noteR s k fn) { x with ev := ev' } → Run W0 (refPs W0 b (M.noteR s k fn) { x with ev := ev' } ++ l) (K undef)) :
    Run W0 (refPs W0 b s x ++ l) (nextS P (V (Instr.loadAt 48 (.pointer (some ⟨b, 5, none⟩)))) (fun x60 => nextS P (V (Instr.build 53 #[(0, IV k), (1, IV fn)])) (fun x63 => nextS P (V (Instr.buildSlice 48 1 #[(0, x63)])) (fun x64 =>
      nextS P (bltN .append #[48, 48] 48 #[false, false] #[x60, x64]) (fun x65 => nextS P (U (Instr.storeAt 48 (.pointer (some ⟨b, 5, none⟩)) x65)) K pn) pn) pn) pn) pn) := by
  refine run_ld sc48 (cl1 (i := 0) rfl rfl) ?_
  refine run_nx (.agg #[IV k, IV fn]) (fun w => by kernel_rfl) ?_
  refine run_buildSlice (evV (k, fn)) un48 ty53 (by omega) (by omega) (by kernel_rfl) fun b3 => ?_
  refine run_append 4 un48 ty53 rfl rfl (Rd.pt (i := 0) rfl 2 (by simp [evV])) (evV_one _) (by unfold maxLen; omega) (by omega) (by omega) fun ev' _ => ?_
  refine run_drop ?_
  refine run_row_rd 3 rfl fun hrd => ?_
  obtain ⟨a2, c2, hv2, _, _, _⟩ := hrd.form
  subst hv2
  refine run_st ty48 (i := 0) rfl rfl (by simp [Value.cells, Value.oneCell']) (by simp) ?_
  have hf' : RFacts W0 (M.noteR s k fn) { x with ev := .slice a2 (s.events.length + 1) c2 } := ⟨hf.fns, hf.cache, hf.ga, hf.ea, hf.pub, hf.picks⟩
  refine run_setPur 5 (RFacts W0 (M.noteR s k fn) { x with ev := .slice a2 (s.events.length + 1) c2 }) rfl hf' ?_
  refine run_to _ (fun w hw => ?_) (h _ hf')
  unfold refPs M.noteR
  simp only [List.length_append, List.length_singleton, List.flatMap_append, List.flatMap_cons, List.flatMap_nil, List.append_nil]
  exact hw

abbrev evI (s : M.RM) (i : Nat) (fn : Int) : M.RM := { s with events := s.events ++ [(4, fn)], cache := s.cache.eraseIdx i }
theorem erase_td {α : Type} (xs : List α) (i : Nat) : xs.eraseIdx i = xs.take i ++ xs.drop (i + 1) := List.eraseIdx_eq_take_drop_succ xs i

theorem evictR_c {b i : Nat} {s : M.RM} {x : RX} {e : EG} (hf : RFacts W0 s x) (he : s.events.length ≤ 4294967200) (hn : x.es.length ≤ 4294967) (hi : x.es[i]? = some e)
    (h : ∀ cv' ev', RFacts W0 (evI s i e.1.fn) { x with cv := cv', ev := ev', es := x.es.eraseIdx i } → Run W0 (refPs W0 b (evI s i e.1.fn) { x with cv := cv', ev := ev', es := x.es.eraseIdx i } ++ l) (K (.tuple #[]))) : Run W0 (refPs W0 b s x ++ l) (callS P 29 #[Ptr b, IV i] K pn) := by
  refine r29 ?_
  unfold S29
  have hilt := (List.getElem?_eq_some_iff.1 hi).1
  refine run_arr (j := 4) rfl fun harr => ?_
  have hone : ∀ e ∈ x.es, ∀ u ∈ entV e, u.oneCell' = true := by
    intro e he u hu
    have := (harr _ (hf.ea e he)).form
    obtain ⟨a, c, hv, _⟩ := this
    simp only at hv
    simp only [entV, List.mem_cons, List.not_mem_nil, or_false] at hu
    rcases hu with rfl | rfl | rfl | rfl | rfl <;> first | rfl | (rw [hv]; rfl)
  clear harr
  obtain ⟨lv, pv, kv, cv, ev, gs, es, ar⟩ := x
  simp only at hf hn hi hilt hone
  refine run_row_rd2 2 [row 92 5 cv es.length (es.flatMap entV)] 0 rfl rfl fun (hrc : Rd W0 [row 92 5 cv es.length (es.flatMap entV)] 5 cv es.length (es.flatMap entV)) => ?_
  refine run_row_rd2 2 [aex fun ev => pt b 50 [lv, pv, IV s.cap, kv, cv, ev], row 92 5 cv es.length (es.flatMap entV)] 1 rfl rfl fun (hr0 : Rd W0 [aex fun ev => pt b 50 [lv, pv, IV s.cap, kv, cv, ev], row 92 5 cv es.length (es.flatMap entV)] 5 cv es.length (es.flatMap entV)) => ?_
  obtain ⟨v1, hv1, hr1⟩ := rd_cutHi (P := P) (k := .i64) un47 ty92 entV_len (by omega) hrc (i := i) (by omega)
  obtain ⟨v2, hv2, hr2⟩ := rd_cutLo' (k := .i64) un47 ty92 entV_len (by omega) hrc (i := i + 1) (by omega) (by omega)
  have h1 : ∀ u ∈ (es.take i).flatMap entV, u.oneCell' = true := by
    intro u hu
    obtain ⟨y, hy, hu⟩ := List.mem_flatMap.1 hu
    exact hone y (List.mem_of_mem_take hy) u hu
  have h2 : ∀ u ∈ (es.drop (i + 1)).flatMap entV, u.oneCell' = true := by
    intro u hu
    obtain ⟨y, hy, hu⟩ := List.mem_flatMap.1 hu
    exact hone y (List.mem_of_mem_drop hy) u hu
  have toS : ∀ {ev rest w}, St W0 (pt b 50 [lv, pv, IV s.cap, kv, cv, ev] :: row 74 5 lv gs.length (gs.flatMap fnG) :: row 92 5 cv es.length (es.flatMap entV) :: rest) w → St W0 [aex fun ev => pt b 50 [lv, pv, IV s.cap, kv, cv, ev], row 92 5 cv es.length (es.flatMap entV)] w := by
    intro ev rest w hw1
    have hw2 := (hw1.erase 1).weak (i := 0) (A' := aex fun ev => pt b 50 [lv, pv, IV s.cap, kv, cv, ev]) rfl fun F w h => ⟨ev, h⟩
    obtain ⟨F, hF, F1, F2, g1, g2, g3, g4, G1, G2, k1, k2, k3, k4, k5⟩ := hw2.sat
    exact ⟨hw2.below, F, hF, F1, F2, g1, g2, g3, g4, G1, fun _ => False, k1, fun _ h => h.elim, fun _ _ h => h, k4, trivial⟩
  -- the end of every way
  have fin : ∀ (ev' v6 : Value), Run W0 (row 92 5 v6 (i + (es.length - (i + 1))) ([] ++ (es.take i).flatMap entV ++ (es.drop (i + 1)).flatMap entV) :: pt b 50 [lv, pv, IV s.cap, kv, v6, ev'] :: row 74 5 lv gs.length (gs.flatMap fnG) :: row 92 5 cv es.length (es.flatMap entV) ::
      row 53 2 ev' (s.events.length + 1) (s.events.flatMap evV ++ evV (4, e.1.fn)) :: big (ar.map aRow) :: pur (RFacts W0 s ⟨lv, pv, kv, cv, ev, gs, es, ar⟩) :: l) (K (.tuple #[])) := by
    intro ev' v6
    have hes : es.take i ++ es.drop (i + 1) = es.eraseIdx i := (erase_td es i).symm
    have hf' : RFacts W0 (evI s i e.1.fn) ⟨lv, pv, kv, v6, ev', gs, es.eraseIdx i, ar⟩ := by
      refine ⟨hf.fns, ?_, hf.ga, fun e he => hf.ea e (List.mem_of_mem_eraseIdx he), hf.pub, hf.picks⟩
      show (es.eraseIdx i).map (·.1) = s.cache.eraseIdx i
      rw [← hf.cache, erase_td, erase_td, List.map_append, List.map_take, List.map_drop]
    refine run_setPur 6 (RFacts W0 (evI s i e.1.fn) ⟨lv, pv, kv, v6, ev', gs, es.eraseIdx i, ar⟩) rfl hf' ?_
    refine run_to (refPs W0 b (evI s i e.1.fn) ⟨lv, pv, kv, v6, ev', gs, es.eraseIdx i, ar⟩ ++ l) (fun w hw => ?_) (h v6 ev' hf')
    have g1 := ((hw.front 1).front 2).front 1
    have g2 := St.erase g1 3
    unfold refPs evI
    have hl : (es.eraseIdx i).length = i + (es.length - (i + 1)) := by rw [List.length_eraseIdx_of_lt hilt]; omega
    have hc : (es.eraseIdx i).flatMap entV = [] ++ (es.take i).flatMap entV ++ (es.drop (i + 1)).flatMap entV := by rw [← hes]; simp
    simp only [List.length_append, List.length_singleton, List.flatMap_append, List.flatMap_cons, List.flatMap_nil, List.append_nil, hl, hc] at g2 ⊢
    exact g2
  refine run_draw [aex fun ev => pt b 50 [lv, pv, IV s.cap, kv, cv, ev], row 92 5 cv es.length (es.flatMap entV)] (fun w hw => toS hw) ?_
  try simp only [pureE, pureT, Nat.zero_add, Nat.reduceAdd, Bool.not_false, Bool.not_true]
  refine take_ld sc47 (clx (i := 0) rfl fun ev => rfl) ?_
  refine run_rd_idxP un47 ty92 entV_len (by omega) hr0 i hi fun b2 o2 hc2 => ?_
  try simp only [pureE, pureT, Nat.zero_add, Nat.reduceAdd, Bool.not_false, Bool.not_true]
  refine take_ld sc3 (hc2.fld (k := 0) rfl) ?_
  refine run_px (.agg #[IV 4, IV e.1.fn]) (fun w => by kernel_rfl) ?_
  refine run_two ?_ ?_
  · refine run_ld sc48 (cl1 (i := 0) rfl rfl) ?_
    refine run_and (fun w hw => toS hw) ?_
    refine run_buildSlice (evV (4, e.1.fn)) un48 ty53 (by omega) (by omega) (by kernel_rfl) fun b3 => ?_
    refine run_and (fun w hw => toS hw.tail) ?_
    refine run_append 4 un48 ty53 rfl rfl (Rd.pt (i := 0) rfl 2 (by simp [evV])) (evV_one _) (by unfold maxLen; omega) (by omega) (by omega) fun ev' _ => ?_
    refine run_and (fun w hw => toS hw.tail) ?_
    refine run_drop ?_
    refine run_row_rd 3 rfl fun hrd => ?_
    obtain ⟨a2, c2, hv2', _, _, _⟩ := hrd.form
    subst hv2'
    try simp only [pureE, pureT, Nat.zero_add, Nat.reduceAdd, Bool.not_false, Bool.not_true]
    refine run_st ty48 (i := 0) rfl rfl (by simp [Value.cells, Value.oneCell']) (by simp) ?_
    refine run_and (fun w hw => toS hw) ?_
    refine run_to (pt b 50 [lv, pv, IV s.cap, kv, cv, .slice a2 (s.events.length + 1) c2] :: row 74 5 lv gs.length (gs.flatMap fnG) :: row 92 5 cv es.length (es.flatMap entV) :: row 53 2 (.slice a2 (s.events.length + 1) c2) (s.events.length + 1) (s.events.flatMap evV ++ evV (4, e.1.fn)) :: big (ar.map aRow) :: pur (RFacts W0 s ⟨lv, pv, kv, cv, ev, gs, es, ar⟩) :: l) (fun w hw => hw) ?_
    refine run_draw [] (fun w hw => hw.nil) ?_
    try simp only [pureE, pureT, Nat.zero_add, Nat.reduceAdd, Bool.not_false, Bool.not_true]
    rw [wrN (x := (i : Int) + 1) (i + 1) (by omega) (by omega)]
    refine run_two ?_ (run_two ?_ ?_)
    · refine run_buildSlice0 un47 ty92 fun b0 => ?_
      refine run_and (fun w hw => hw.nil) ?_
      refine run_rowOfPt 0 5 0 rfl (by simp) (by unfold maxLen; omega) ?_
      refine run_two ?_ ?_
      · refine run_ld sc47 (cl1 (i := 1) rfl rfl) ?_
        refine run_and (fun w hw => hw.nil) ?_
        refine run_px v1 hv1 ?_
        refine run_two ?_ ?_
        · refine run_append 0 un47 ty92 rfl rfl (hr1.mono (St.one (i := 3) rfl)) h1 (by unfold maxLen; omega) (by omega) (by omega) fun v5 _ => ?_
          refine run_and (fun w hw => hw.nil) ?_
          refine run_ld sc47 (cl1 (i := 1) rfl rfl) ?_
          refine run_and (fun w hw => hw.nil) ?_
          refine run_px v2 hv2 ?_
          refine run_append 0 un47 ty92 rfl rfl (hr2.mono (St.one (i := 3) rfl)) h2 (by unfold maxLen; omega) (by omega) (by omega) fun v6 _ => ?_
          refine run_and (fun w hw => hw.nil) ?_
          refine run_row_rd 0 rfl fun hrd6 => ?_
          obtain ⟨a6, c6, hv6, _, _, _⟩ := hrd6.form
          subst hv6
          try simp only [pureE, pureT, Nat.zero_add, Nat.reduceAdd, Bool.not_false, Bool.not_true]
          refine run_st ty47 (i := 1) rfl rfl (by simp [Value.cells, Value.oneCell']) (by simp) ?_
          refine run_and (fun w hw => hw.nil) ?_
          exact fin _ _
        · refine run_ld sc47 (cl1 (i := 1) rfl rfl) ?_
          refine run_and (fun w hw => hw.nil) ?_
          refine run_px v2 hv2 ?_
          refine run_append 0 un47 ty92 rfl rfl (hr1.mono (St.one (i := 3) rfl)) h1 (by unfold maxLen; omega) (by omega) (by omega) fun v5 _ => ?_
          refine run_and (fun w hw => hw.nil) ?_
          refine run_append 0 un47 ty92 rfl rfl (hr2.mono (St.one (i := 3) rfl)) h2 (by unfold maxLen; omega) (by omega) (by omega) fun v6 _ => ?_
          refine run_and (fun w hw => hw.nil) ?_
          refine run_row_rd 0 rfl fun hrd6 => ?_
          obtain ⟨a6, c6, hv6, _, _, _⟩ := hrd6.form
          subst hv6
          try simp only [pureE, pureT, Nat.zero_add, Nat.reduceAdd, Bool.not_false, Bool.not_true]
          refine run_st ty47 (i := 1) rfl rfl (by simp [Value.cells, Value.oneCell']) (by simp) ?_
          refine run_and (fun w hw => hw.nil) ?_
          exact fin _ _
      · refine run_ld sc47 (cl1 (i := 1) rfl rfl) ?_
        refine run_and (fun w hw => hw.nil) ?_
        refine run_px v2 hv2 ?_
        refine run_ld sc47 (cl1 (i := 1) rfl rfl) ?_
        refine run_and (fun w hw => hw.nil) ?_
        refine run_px v1 hv1 ?_
        refine run_append 0 un47 ty92 rfl rfl (hr1.mono (St.one (i := 3) rfl)) h1 (by unfold maxLen; omega) (by omega) (by omega) fun v5 _ => ?_
        refine run_and (fun w hw => hw.nil) ?_
        refine run_append 0 un47 ty92 rfl rfl (hr2.mono (St.one (i := 3) rfl)) h2 (by unfold maxLen; omega) (by omega) (by omega) fun v6 _ => ?_
        refine run_and (fun w hw => hw.nil) ?_
        refine run_row_rd 0 rfl fun hrd6 => ?_
        obtain ⟨a6, c6, hv6, _, _, _⟩ := hrd6.form
        subst hv6
        try simp only [pureE, pureT, Nat.zero_add, Nat.reduceAdd, Bool.not_false, Bool.not_true]
        refine run_st ty47 (i := 1) rfl rfl (by simp [Value.cells, Value.oneCell']) (by simp) ?_
        refine run_and (fun w hw => hw.nil) ?_
        exact fin _ _
    · refine run_ld sc47 (cl1 (i := 0) rfl rfl) ?_
      refine run_and (fun w hw => hw.nil) ?_
      refine run_px v1 hv1 ?_
      refine run_two ?_ ?_
      · refine run_buildSlice0 un47 ty92 fun b0 => ?_
        refine run_and (fun w hw => hw.nil) ?_
        refine run_rowOfPt 0 5 0 rfl (by simp) (by unfold maxLen; omega) ?_
        refine run_two ?_ ?_
        · refine run_append 0 un47 ty92 rfl rfl (hr1.mono (St.one (i := 3) rfl)) h1 (by unfold maxLen; omega) (by omega) (by omega) fun v5 _ => ?_
          refine run_and (fun w hw => hw.nil) ?_
          refine run_ld sc47 (cl1 (i := 1) rfl rfl) ?_
          refine run_and (fun w hw => hw.nil) ?_
          refine run_px v2 hv2 ?_
          refine run_append 0 un47 ty92 rfl rfl (hr2.mono (St.one (i := 3) rfl)) h2 (by unfold maxLen; omega) (by omega) (by omega) fun v6 _ => ?_
          refine run_and (fun w hw => hw.nil) ?_
          refine run_row_rd 0 rfl fun hrd6 => ?_
          obtain ⟨a6, c6, hv6, _, _, _⟩ := hrd6.form
          subst hv6
          try simp only [pureE, pureT, Nat.zero_add, Nat.reduceAdd, Bool.not_false, Bool.not_true]
          refine run_st ty47 (i := 1) rfl rfl (by simp [Value.cells, Value.oneCell']) (by simp) ?_
          refine run_and (fun w hw => hw.nil) ?_
          exact fin _ _
        · refine run_ld sc47 (cl1 (i := 1) rfl rfl) ?_
          refine run_and (fun w hw => hw.nil) ?_
          refine run_px v2 hv2 ?_
          refine run_append 0 un47 ty92 rfl rfl (hr1.mono (St.one (i := 3) rfl)) h1 (by unfold maxLen; omega) (by omega) (by omega) fun v5 _ => ?_
          refine run_and (fun w hw => hw.nil) ?_
          refine run_append 0 un47 ty92 rfl rfl (hr2.mono (St.one (i := 3) rfl)) h2 (by unfold maxLen; omega) (by omega) (by omega) fun v6 _ => ?_
          refine run_and (fun w hw => hw.nil) ?_
          refine run_row_rd 0 rfl fun hrd6 => ?_
          obtain ⟨a6, c6, hv6, _, _, _⟩ := hrd6.form
          subst hv6
          try simp only [pureE, pureT, Nat.zero_add, Nat.reduceAdd, Bool.not_false, Bool.not_true]
          refine run_st ty47 (i := 1) rfl rfl (by simp [Value.cells, Value.oneCell']) (by simp) ?_
          refine run_and (fun w hw => hw.nil) ?_
          exact fin _ _
      · refine run_ld sc47 (cl1 (i := 0) rfl rfl) ?_
        refine run_and (fun w hw => hw.nil) ?_
        refine run_px v2 hv2 ?_
        refine run_buildSlice0 un47 ty92 fun b0 => ?_
        refine run_and (fun w hw => hw.nil) ?_
        refine run_rowOfPt 0 5 0 rfl (by simp) (by unfold maxLen; omega) ?_
        refine run_append 0 un47 ty92 rfl rfl (hr1.mono (St.one (i := 3) rfl)) h1 (by unfold maxLen; omega) (by omega) (by omega) fun v5 _ => ?_
        refine run_and (fun w hw => hw.nil) ?_
        refine run_append 0 un47 ty92 rfl rfl (hr2.mono (St.one (i := 3) rfl)) h2 (by unfold maxLen; omega) (by omega) (by omega) fun v6 _ => ?_
        refine run_and (fun w hw => hw.nil) ?_
        refine run_row_rd 0 rfl fun hrd6 => ?_
        obtain ⟨a6, c6, hv6, _, _, _⟩ := hrd6.form
        subst hv6
        try simp only [pureE, pureT, Nat.zero_add, Nat.reduceAdd, Bool.not_false, Bool.not_true]
        refine run_st ty47 (i := 1) rfl rfl (by simp [Value.cells, Value.oneCell']) (by simp) ?_
        refine run_and (fun w hw => hw.nil) ?_
        exact fin _ _
    · refine run_ld sc47 (cl1 (i := 0) rfl rfl) ?_
      refine run_and (fun w hw => hw.nil) ?_
      refine run_px v2 hv2 ?_
      refine run_two ?_ ?_
      · refine run_buildSlice0 un47 ty92 fun b0 => ?_
        refine run_and (fun w hw => hw.nil) ?_
        refine run_rowOfPt 0 5 0 rfl (by simp) (by unfold maxLen; omega) ?_
        refine run_ld sc47 (cl1 (i := 1) rfl rfl) ?_
        refine run_and (fun w hw => hw.nil) ?_
        refine run_px v1 hv1 ?_
        refine run_append 0 un47 ty92 rfl rfl (hr1.mono (St.one (i := 3) rfl)) h1 (by unfold maxLen; omega) (by omega) (by omega) fun v5 _ => ?_
        refine run_and (fun w hw => hw.nil) ?_
        refine run_append 0 un47 ty92 rfl rfl (hr2.mono (St.one (i := 3) rfl)) h2 (by unfold maxLen; omega) (by omega) (by omega) fun v6 _ => ?_
        refine run_and (fun w hw => hw.nil) ?_
        refine run_row_rd 0 rfl fun hrd6 => ?_
        obtain ⟨a6, c6, hv6, _, _, _⟩ := hrd6.form
        subst hv6
        try simp only [pureE, pureT, Nat.zero_add, Nat.reduceAdd, Bool.not_false, Bool.not_true]
        refine run_st ty47 (i := 1) rfl rfl (by simp [Value.cells, Value.oneCell']) (by simp) ?_
        refine run_and (fun w hw => hw.nil) ?_
        exact fin _ _
      · refine run_ld sc47 (cl1 (i := 0) rfl rfl) ?_
        refine run_and (fun w hw => hw.nil) ?_
        refine run_px v1 hv1 ?_
        refine run_buildSlice0 un47 ty92 fun b0 => ?_
        refine run_and (fun w hw => hw.nil) ?_
        refine run_rowOfPt 0 5 0 rfl (by simp) (by unfold maxLen; omega) ?_
        refine run_append 0 un47 ty92 rfl rfl (hr1.mono (St.one (i := 3) rfl)) h1 (by unfold maxLen; omega) (by omega) (by omega) fun v5 _ => ?_
        refine run_and (fun w hw => hw.nil) ?_
        refine run_append 0 un47 ty92 rfl rfl (hr2.mono (St.one (i := 3) rfl)) h2 (by unfold maxLen; omega) (by omega) (by omega) fun v6 _ => ?_
        refine run_and (fun w hw => hw.nil) ?_
        refine run_row_rd 0 rfl fun hrd6 => ?_
        obtain ⟨a6, c6, hv6, _, _, _⟩ := hrd6.form
        subst hv6
        try simp only [pureE, pureT, Nat.zero_add, Nat.reduceAdd, Bool.not_false, Bool.not_true]
        refine run_st ty47 (i := 1) rfl rfl (by simp [Value.cells, Value.oneCell']) (by simp) ?_
        refine run_and (fun w hw => hw.nil) ?_
        exact fin _ _
  · refine run_buildSlice (evV (4, e.1.fn)) un48 ty53 (by omega) (by omega) (by kernel_rfl) fun b3 => ?_
    refine run_and (fun w hw => toS hw.tail) ?_
    refine run_ld sc48 (cl1 (i := 1) rfl rfl) ?_
    refine run_and (fun w hw => toS hw.tail) ?_
    refine run_append 4 un48 ty53 rfl rfl (Rd.pt (i := 0) rfl 2 (by simp [evV])) (evV_one _) (by unfold maxLen; omega) (by omega) (by omega) fun ev' _ => ?_
    refine run_and (fun w hw => toS hw.tail) ?_
    refine run_drop ?_
    refine run_row_rd 3 rfl fun hrd => ?_
    obtain ⟨a2, c2, hv2', _, _, _⟩ := hrd.form
    subst hv2'
    try simp only [pureE, pureT, Nat.zero_add, Nat.reduceAdd, Bool.not_false, Bool.not_true]
    refine run_st ty48 (i := 0) rfl rfl (by simp [Value.cells, Value.oneCell']) (by simp) ?_
    refine run_and (fun w hw => toS hw) ?_
    refine run_to (pt b 50 [lv, pv, IV s.cap, kv, cv, .slice a2 (s.events.length + 1) c2] :: row 74 5 lv gs.length (gs.flatMap fnG) :: row 92 5 cv es.length (es.flatMap entV) :: row 53 2 (.slice a2 (s.events.length + 1) c2) (s.events.length + 1) (s.events.flatMap evV ++ evV (4, e.1.fn)) :: big (ar.map aRow) :: pur (RFacts W0 s ⟨lv, pv, kv, cv, ev, gs, es, ar⟩) :: l) (fun w hw => hw) ?_
    refine run_draw [] (fun w hw => hw.nil) ?_
    try simp only [pureE, pureT, Nat.zero_add, Nat.reduceAdd, Bool.not_false, Bool.not_true]
    rw [wrN (x := (i : Int) + 1) (i + 1) (by omega) (by omega)]
    refine run_two ?_ (run_two ?_ ?_)
    · refine run_buildSlice0 un47 ty92 fun b0 => ?_
      refine run_and (fun w hw => hw.nil) ?_
      refine run_rowOfPt 0 5 0 rfl (by simp) (by unfold maxLen; omega) ?_
      refine run_two ?_ ?_
      · refine run_ld sc47 (cl1 (i := 1) rfl rfl) ?_
        refine run_and (fun w hw => hw.nil) ?_
        refine run_px v1 hv1 ?_
        refine run_two ?_ ?_
        · refine run_append 0 un47 ty92 rfl rfl (hr1.mono (St.one (i := 3) rfl)) h1 (by unfold maxLen; omega) (by omega) (by omega) fun v5 _ => ?_
          refine run_and (fun w hw => hw.nil) ?_
          refine run_ld sc47 (cl1 (i := 1) rfl rfl) ?_
          refine run_and (fun w hw => hw.nil) ?_
          refine run_px v2 hv2 ?_
          refine run_append 0 un47 ty92 rfl rfl (hr2.mono (St.one (i := 3) rfl)) h2 (by unfold maxLen; omega) (by omega) (by omega) fun v6 _ => ?_
          refine run_and (fun w hw => hw.nil) ?_
          refine run_row_rd 0 rfl fun hrd6 => ?_
          obtain ⟨a6, c6, hv6, _, _, _⟩ := hrd6.form
          subst hv6
          try simp only [pureE, pureT, Nat.zero_add, Nat.reduceAdd, Bool.not_false, Bool.not_true]
          refine run_st ty47 (i := 1) rfl rfl (by simp [Value.cells, Value.oneCell']) (by simp) ?_
          refine run_and (fun w hw => hw.nil) ?_
          exact fin _ _
        · refine run_ld sc47 (cl1 (i := 1) rfl rfl) ?_
          refine run_and (fun w hw => hw.nil) ?_
          refine run_px v2 hv2 ?_
          refine run_append 0 un47 ty92 rfl rfl (hr1.mono (St.one (i := 3) rfl)) h1 (by unfold maxLen; omega) (by omega) (by omega) fun v5 _ => ?_
          refine run_and (fun w hw => hw.nil) ?_
          refine run_append 0 un47 ty92 rfl rfl (hr2.mono (St.one (i := 3) rfl)) h2 (by unfold maxLen; omega) (by omega) (by omega) fun v6 _ => ?_
          refine run_and (fun w hw => hw.nil) ?_
          refine run_row_rd 0 rfl fun hrd6 => ?_
          obtain ⟨a6, c6, hv6, _, _, _⟩ := hrd6.form
          subst hv6
          try simp only [pureE, pureT, Nat.zero_add, Nat.reduceAdd, Bool.not_false, Bool.not_true]
          refine run_st ty47 (i := 1) rfl rfl (by simp [Value.cells, Value.oneCell']) (by simp) ?_
          refine run_and (fun w hw => hw.nil) ?_
          exact fin _ _
      · refine run_ld sc47 (cl1 (i := 1) rfl rfl) ?_
        refine run_and (fun w hw => hw.nil) ?_
        refine run_px v2 hv2 ?_
        refine run_ld sc47 (cl1 (i := 1) rfl rfl) ?_
        refine run_and (fun w hw => hw.nil) ?_
        refine run_px v1 hv1 ?_
        refine run_append 0 un47 ty92 rfl rfl (hr1.mono (St.one (i := 3) rfl)) h1 (by unfold maxLen; omega) (by omega) (by omega) fun v5 _ => ?_
        refine run_and (fun w hw => hw.nil) ?_
        refine run_append 0 un47 ty92 rfl rfl (hr2.mono (St.one (i := 3) rfl)) h2 (by unfold maxLen; omega) (by omega) (by omega) fun v6 _ => ?_
        refine run_and (fun w hw => hw.nil) ?_
        refine run_row_rd 0 rfl fun hrd6 => ?_
        obtain ⟨a6, c6, hv6, _, _, _⟩ := hrd6.form
        subst hv6
        try simp only [pureE, pureT, Nat.zero_add, Nat.reduceAdd, Bool.not_false, Bool.not_true]
        refine run_st ty47 (i := 1) rfl rfl (by simp [Value.cells, Value.oneCell']) (by simp) ?_
        refine run_and (fun w hw => hw.nil) ?_
        exact fin _ _
    · refine run_ld sc47 (cl1 (i := 0) rfl rfl) ?_
      refine run_and (fun w hw => hw.nil) ?_
      refine run_px v1 hv1 ?_
      refine run_two ?_ ?_
      · refine run_buildSlice0 un47 ty92 fun b0 => ?_
        refine run_and (fun w hw => hw.nil) ?_
        refine run_rowOfPt 0 5 0 rfl (by simp) (by unfold maxLen; omega) ?_
        refine run_two ?_ ?_
        · refine run_append 0 un47 ty92 rfl rfl (hr1.mono (St.one (i := 3) rfl)) h1 (by unfold maxLen; omega) (by omega) (by omega) fun v5 _ => ?_
          refine run_and (fun w hw => hw.nil) ?_
          refine run_ld sc47 (cl1 (i := 1) rfl rfl) ?_
          refine run_and (fun w hw => hw.nil) ?_
          refine run_px v2 hv2 ?_
          refine run_append 0 un47 ty92 rfl rfl (hr2.mono (St.one (i := 3) rfl)) h2 (by unfold maxLen; omega) (by omega) (by omega) fun v6 _ => ?_
          refine run_and (fun w hw => hw.nil) ?_
          refine run_row_rd 0 rfl fun hrd6 => ?_
          obtain ⟨a6, c6, hv6, _, _, _⟩ := hrd6.form
          subst hv6
          try simp only [pureE, pureT, Nat.zero_add, Nat.reduceAdd, Bool.not_false, Bool.not_true]
          refine run_st ty47 (i := 1) rfl rfl (by simp [Value.cells, Value.oneCell']) (by simp) ?_
          refine run_and (fun w hw => hw.nil) ?_
          exact fin _ _
        · refine run_ld sc47 (cl1 (i := 1) rfl rfl) ?_
          refine run_and (fun w hw => hw.nil) ?_
          refine run_px v2 hv2 ?_
          refine run_append 0 un47 ty92 rfl rfl (hr1.mono (St.one (i := 3) rfl)) h1 (by unfold maxLen; omega) (by omega) (by omega) fun v5 _ => ?_
          refine run_and (fun w hw => hw.nil) ?_
          refine run_append 0 un47 ty92 rfl rfl (hr2.mono (St.one (i := 3) rfl)) h2 (by unfold maxLen; omega) (by omega) (by omega) fun v6 _ => ?_
          refine run_and (fun w hw => hw.nil) ?_
          refine run_row_rd 0 rfl fun hrd6 => ?_
          obtain ⟨a6, c6, hv6, _, _, _⟩ := hrd6.form
          subst hv6
          try simp only [pureE, pureT, Nat.zero_add, Nat.reduceAdd, Bool.not_false, Bool.not_true]
          refine run_st ty47 (i := 1) rfl rfl (by simp [Value.cells, Value.oneCell']) (by simp) ?_
          refine run_and (fun w hw => hw.nil) ?_
          exact fin _ _
      · refine run_ld sc47 (cl1 (i := 0) rfl rfl) ?_
        refine run_and (fun w hw => hw.nil) ?_
        refine run_px v2 hv2 ?_
        refine run_buildSlice0 un47 ty92 fun b0 => ?_
        refine run_and (fun w hw => hw.nil) ?_
        refine run_rowOfPt 0 5 0 rfl (by simp) (by unfold maxLen; omega) ?_
        refine run_append 0 un47 ty92 rfl rfl (hr1.mono (St.one (i := 3) rfl)) h1 (by unfold maxLen; omega) (by omega) (by omega) fun v5 _ => ?_
        refine run_and (fun w hw => hw.nil) ?_
        refine run_append 0 un47 ty92 rfl rfl (hr2.mono (St.one (i := 3) rfl)) h2 (by unfold maxLen; omega) (by omega) (by omega) fun v6 _ => ?_
        refine run_and (fun w hw => hw.nil) ?_
        refine run_row_rd 0 rfl fun hrd6 => ?_
        obtain ⟨a6, c6, hv6, _, _, _⟩ := hrd6.form
        subst hv6
        try simp only [pureE, pureT, Nat.zero_add, Nat.reduceAdd, Bool.not_false, Bool.not_true]
        refine run_st ty47 (i := 1) rfl rfl (by simp [Value.cells, Value.oneCell']) (by simp) ?_
        refine run_and (fun w hw => hw.nil) ?_
        exact fin _ _
    · refine run_ld sc47 (cl1 (i := 0) rfl rfl) ?_
      refine run_and (fun w hw => hw.nil) ?_
      refine run_px v2 hv2 ?_
      refine run_two ?_ ?_
      · refine run_buildSlice0 un47 ty92 fun b0 => ?_
        refine run_and (fun w hw => hw.nil) ?_
        refine run_rowOfPt 0 5 0 rfl (by simp) (by unfold maxLen; omega) ?_
        refine run_ld sc47 (cl1 (i := 1) rfl rfl) ?_
        refine run_and (fun w hw => hw.nil) ?_
        refine run_px v1 hv1 ?_
        refine run_append 0 un47 ty92 rfl rfl (hr1.mono (St.one (i := 3) rfl)) h1 (by unfold maxLen; omega) (by omega) (by omega) fun v5 _ => ?_
        refine run_and (fun w hw => hw.nil) ?_
        refine run_append 0 un47 ty92 rfl rfl (hr2.mono (St.one (i := 3) rfl)) h2 (by unfold maxLen; omega) (by omega) (by omega) fun v6 _ => ?_
        refine run_and (fun w hw => hw.nil) ?_
        refine run_row_rd 0 rfl fun hrd6 => ?_
        obtain ⟨a6, c6, hv6, _, _, _⟩ := hrd6.form
        subst hv6
        try simp only [pureE, pureT, Nat.zero_add, Nat.reduceAdd, Bool.not_false, Bool.not_true]
        refine run_st ty47 (i := 1) rfl rfl (by simp [Value.cells, Value.oneCell']) (by simp) ?_
        refine run_and (fun w hw => hw.nil) ?_
        exact fin _ _
      · refine run_ld sc47 (cl1 (i := 0) rfl rfl) ?_
        refine run_and (fun w hw => hw.nil) ?_
        refine run_px v1 hv1 ?_
        refine run_buildSlice0 un47 ty92 fun b0 => ?_
        refine run_and (fun w hw => hw.nil) ?_
        refine run_rowOfPt 0 5 0 rfl (by simp) (by unfold maxLen; omega) ?_
        refine run_append 0 un47 ty92 rfl rfl (hr1.mono (St.one (i := 3) rfl)) h1 (by unfold maxLen; omega) (by omega) (by omega) fun v5 _ => ?_
        refine run_and (fun w hw => hw.nil) ?_
        refine run_append 0 un47 ty92 rfl rfl (hr2.mono (St.one (i := 3) rfl)) h2 (by unfold maxLen; omega) (by omega) (by omega) fun v6 _ => ?_
        refine run_and (fun w hw => hw.nil) ?_
        refine run_row_rd 0 rfl fun hrd6 => ?_
        obtain ⟨a6, c6, hv6, _, _, _⟩ := hrd6.form
        subst hv6
        try simp only [pureE, pureT, Nat.zero_add, Nat.reduceAdd, Bool.not_false, Bool.not_true]
        refine run_st ty47 (i := 1) rfl rfl (by simp [Value.cells, Value.oneCell']) (by simp) ?_
        refine run_and (fun w hw => hw.nil) ?_
        exact fin _ _
end
end Go.Proofs.YtkonigmefmgepaaGreatDoor
