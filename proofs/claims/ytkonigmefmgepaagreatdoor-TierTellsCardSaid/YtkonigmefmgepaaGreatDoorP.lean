/- Contracts: the document's manager compiles (own work). -/
import Derived.Test.YtkonigmefmgepaaGreatDoorO
namespace Go.Proofs.YtkonigmefmgepaaGreatDoor
open Go.RowKit
set_option linter.unusedVariables false
set_option linter.unusedSimpArgs false

theorem nodupless {α : Type} (x : α) : True := trivial
section
variable {W0 : World} {l : List As} {K : Value → C} {pn : Pn}

/-- A piece ahead of the manager's goes behind them. -/
theorem St.back {b : Nat} {s : M.RM} {x : RX} {A : As} {w : World} (h : St W0 (A :: (refPs W0 b s x ++ l)) w) : St W0 (refPs W0 b s x ++ A :: l) w :=
  (((((h.front 6).front 6).front 6).front 6).front 6).front 6
theorem St.backOut {b : Nat} {s : M.RM} {x : RX} {A : As} {w : World} (h : St W0 (refPs W0 b s x ++ A :: l) w) : St W0 (A :: (refPs W0 b s x ++ l)) w := h.front 6
/-- A new array joins the others. -/
theorem run_join {b : Nat} {s : M.RM} {x : RX} {v : Value} {ys : List M.Ins} {c : C} (hf : RFacts W0 s x) (h : RFacts W0 s { x with ar := x.ar ++ [(v, ys)] } → Run W0 (refPs W0 b s { x with ar := x.ar ++ [(v, ys)] } ++ l) c) :
    Run W0 (row 75 3 v ys.length (insC ys) :: (refPs W0 b s x ++ l)) c := by
  have hf' : RFacts W0 s { x with ar := x.ar ++ [(v, ys)] } := ⟨hf.fns, hf.cache, fun g hg => List.mem_append_left _ (hf.ga g hg), fun e he => List.mem_append_left _ (hf.ea e he), hf.pub, hf.picks⟩
  refine run_setPur 6 (RFacts W0 s { x with ar := x.ar ++ [(v, ys)] }) rfl hf' ?_
  refine run_to _ (fun w hw => ?_) (h hf')
  have g1 := (hw.front 5).front 1
  have g2 : St W0 (big (x.ar.map aRow ++ [aRow (v, ys)]) :: _) w := St.push (A := aRow (v, ys)) g1
  have g3 := (((g2.front 4).front 4).front 4).front 4
  unfold refPs
  simp only [List.map_append, List.map_cons, List.map_nil]
  exact g3

theorem k4_c {b b9 : Nat} {s : M.RM} {x : RX} {e : M.Ent} {bv : Value} (hf : RFacts W0 s x) (hn : x.es.length ≤ 4294967) (hbv : ∃ a n c, bv = .slice a n c) (hin : (bv, e.body) ∈ x.ar)
    (h : Run W0 (refA W0 b { s with cache := s.cache ++ [e] } :: l) (K (.tuple #[]))) : Run W0 (refPs W0 b s x ++ pt b9 92 (entV (e, bv)) :: l) (S28_k4 K pn (Ptr b) (Ptr b9)) := by
  unfold S28_k4
  obtain ⟨a, n, c, rfl⟩ := hbv
  obtain ⟨lv, pv, kv, cv, ev, gs, es, ar⟩ := x
  simp only at hf hn hin
  have hf' : ∀ cv', RFacts W0 { s with cache := s.cache ++ [e] } ⟨lv, pv, kv, cv', ev, gs, es ++ [(e, .slice a n c)], ar⟩ := fun cv' => by
    refine ⟨hf.fns, ?_, hf.ga, ?_, hf.pub, hf.picks⟩
    · show (es ++ [(e, Value.slice a n c)]).map (·.1) = s.cache ++ [e]
      rw [← hf.cache]
      simp
    · intro y hy
      rcases List.mem_append.1 hy with hy | hy
      · exact hf.ea y hy
      · simp only [List.mem_singleton] at hy
        subst hy
        exact hin
  have fin : ∀ cv', Run W0 (pt b 50 [lv, pv, IV s.cap, kv, cv', ev] :: row 74 5 lv gs.length (gs.flatMap fnG) :: row 92 5 cv' (es.length + 1) (es.flatMap entV ++ entV (e, .slice a n c)) :: row 53 2 ev s.events.length (s.events.flatMap evV) :: big (ar.map aRow) ::
      pur (RFacts W0 s ⟨lv, pv, kv, cv, ev, gs, es, ar⟩) :: pt b9 92 (entV (e, .slice a n c)) :: l) (K (.tuple #[])) := by
    intro cv'
    refine run_setPur 5 (RFacts W0 { s with cache := s.cache ++ [e] } ⟨lv, pv, kv, cv', ev, gs, es ++ [(e, .slice a n c)], ar⟩) rfl (hf' cv') ?_
    refine run_to (refPs W0 b { s with cache := s.cache ++ [e] } ⟨lv, pv, kv, cv', ev, gs, es ++ [(e, .slice a n c)], ar⟩ ++ l) (fun w hw => ?_) (run_pack _ h)
    have g := St.erase hw 6
    unfold refPs
    simp only [List.length_append, List.length_singleton, List.flatMap_append, List.flatMap_cons, List.flatMap_nil, List.append_nil]
    exact g
  refine run_draw [pt b9 92 (entV (e, .slice a n c))] (St.one (i := 6) rfl) ?_
  try simp only [pureE, pureT, Nat.zero_add, Nat.reduceAdd, Bool.not_false, Bool.not_true]
  refine take_lda ag92 ty92 (xs := entV (e, .slice a n c)) rfl (cl_all (i := 0) rfl) ?_
  have hone : ∀ u ∈ entV (e, Value.slice a n c), u.oneCell' = true := by
    intro u hu
    simp only [entV, List.mem_cons, List.not_mem_nil, or_false] at hu
    rcases hu with rfl | rfl | rfl | rfl | rfl <;> rfl
  refine run_two ?_ ?_
  · refine run_ld sc47 (cl1 (i := 0) rfl rfl) ?_
    refine run_and (St.one (i := 6) rfl) ?_
    refine run_buildSlice (entV (e, .slice a n c)) un47 ty92 (by omega) (by omega) (by kernel_rfl) fun b3 => ?_
    refine run_and (St.one (i := 7) rfl) ?_
    refine run_append (n := es.length) (m := 1) 3 un47 ty92 rfl rfl (Rd.pt (i := 0) rfl 5 (by simp [entV])) hone (by unfold maxLen; omega) (by omega) (by omega) fun cv' _ => ?_
    refine run_and (St.one (i := 7) rfl) ?_
    refine run_drop ?_
    refine run_row_rd 2 rfl fun hrd => ?_
    obtain ⟨a2, c2, hv2', _, _, _⟩ := hrd.form
    subst hv2'
    try simp only [pureE, pureT, Nat.zero_add, Nat.reduceAdd, Bool.not_false, Bool.not_true]
    refine run_st ty47 (i := 0) rfl rfl (by simp [Value.cells, Value.oneCell']) (by simp) ?_
    refine run_and (St.one (i := 6) rfl) ?_
    exact fin _
  · refine run_buildSlice (entV (e, .slice a n c)) un47 ty92 (by omega) (by omega) (by kernel_rfl) fun b3 => ?_
    refine run_and (St.one (i := 7) rfl) ?_
    refine run_ld sc47 (cl1 (i := 1) rfl rfl) ?_
    refine run_and (St.one (i := 7) rfl) ?_
    refine run_append (n := es.length) (m := 1) 3 un47 ty92 rfl rfl (Rd.pt (i := 0) rfl 5 (by simp [entV])) hone (by unfold maxLen; omega) (by omega) (by omega) fun cv' _ => ?_
    refine run_and (St.one (i := 7) rfl) ?_
    refine run_drop ?_
    refine run_row_rd 2 rfl fun hrd => ?_
    obtain ⟨a2, c2, hv2', _, _, _⟩ := hrd.form
    subst hv2'
    try simp only [pureE, pureT, Nat.zero_add, Nat.reduceAdd, Bool.not_false, Bool.not_true]
    refine run_st ty47 (i := 0) rfl rfl (by simp [Value.cells, Value.oneCell']) (by simp) ?_
    refine run_and (St.one (i := 6) rfl) ?_
    exact fin _

theorem k3_c {b b9 fn : Nat} {s : M.RM} {x : RX} {e : M.Ent} {bv : Value} (hf : RFacts W0 s x) (he : s.events.length ≤ 4294967000) (hn : s.cache.length ≤ 4294000) (hcap : 1 ≤ s.cap) (hnd : (s.cache.map (·.fn)).Nodup) (hbv : ∃ a n c, bv = .slice a n c) (hin : (bv, e.body) ∈ x.ar)
    (h : Run W0 (refA W0 b (M.putR (M.noteR s 1 fn) e) :: l) (K (.tuple #[]))) : Run W0 (refPs W0 b s x ++ pt b9 92 (entV (e, bv)) :: l) (S28_k3 K pn (Ptr b) (IV fn) (Ptr b9)) := by
  unfold S28_k3
  try simp only [pureE, pureT, Nat.zero_add, Nat.reduceAdd, Bool.not_false, Bool.not_true]
  refine noteR_c (k := 1) (fn := (fn : Int)) hf (by omega) fun ev' hf' => ?_
  generalize hs' : M.noteR s 1 fn = s' at *
  have hes' : s'.events.length ≤ 4294967001 := by rw [← hs']; simp [M.noteR]; omega
  have hcs' : s'.cache = s.cache := by rw [← hs']; rfl
  have hcap' : s'.cap = s.cap := by rw [← hs']; rfl
  have hlen : x.es.length = s.cache.length := by rw [← hf.cache]; simp
  obtain ⟨lv, pv, kv, cv, ev, gs, es, ar⟩ := x
  simp only at hf' hin hlen
  refine run_row_rd 2 rfl fun hrd => ?_
  obtain ⟨a2, c2, hv2, _, _, _⟩ := hrd.form
  simp only at hv2
  subst hv2
  refine run_draw _ (fun w hw => hw) ?_
  try simp only [pureE, pureT, Nat.zero_add, Nat.reduceAdd, Bool.not_false, Bool.not_true]
  refine take_ld sc47 (cl1 (i := 0) rfl rfl) ?_
  refine run_tk (IV es.length) (fun w => pv_len un47) ?_
  try simp only [pureE, pureT, Nat.zero_add, Nat.reduceAdd, Bool.not_false, Bool.not_true]
  refine take_ld sc3 (cl1 (i := 0) rfl rfl) ?_
  try simp only [pureE, pureT, Nat.zero_add, Nat.reduceAdd, Bool.not_false, Bool.not_true]
  unfold M.putR at h
  by_cases hfull : s'.cap ≤ (es.length : Int)
  · rw [dec_t hfull]
    try simp only [pureE, pureT, Nat.zero_add, Nat.reduceAdd, Bool.not_false, Bool.not_true]
    obtain ⟨y, hy⟩ : ∃ y, es[0]? = some y := ⟨_, List.getElem?_eq_getElem (by omega)⟩
    refine evictR_c (i := 0) (e := y) hf' (by omega) (by simp only; omega) hy fun cv2 ev2 hf2 => ?_
    have hroom : M.roomR s' = evI s' 0 y.1.fn := by
      unfold M.roomR
      rw [hcs', ← hlen, decide_eq_true hfull, if_pos rfl]
      have hc0 : s.cache = es.map (·.1) := hf.cache.symm
      cases es with
      | nil => simp at hy
      | cons z zs =>
        simp only [List.getElem?_cons_zero, Option.some.injEq] at hy
        subst hy
        rw [hc0] at hnd ⊢
        simp only [List.map_cons]
        unfold M.dropR M.noteR evI
        rw [hcs', hc0]
        simp only [List.map_cons, List.eraseIdx_zero, List.tail_cons]
        congr 1
        rw [List.filter_cons, if_neg (by simp)]
        simp only [List.map_cons, List.nodup_cons] at hnd
        rw [List.filter_eq_self.2]
        intro q hq
        simp only [bne_iff_ne, ne_eq]
        intro hqq
        exact hnd.1 (by rw [← hqq]; exact List.mem_map_of_mem hq)
    rw [hroom] at h
    exact k4_c hf2 (by have := List.length_eraseIdx_le es 0; simp only; omega) hbv hin h
  · rw [dec_f hfull]
    try simp only [pureE, pureT, Nat.zero_add, Nat.reduceAdd, Bool.not_false, Bool.not_true]
    have hroom : M.roomR s' = s' := by
      unfold M.roomR
      rw [hcs', ← hlen, decide_eq_false hfull, if_neg (by simp)]
    rw [hroom] at h
    exact k4_c hf' (by simp only; omega) hbv hin h
end
end Go.Proofs.YtkonigmefmgepaaGreatDoor
