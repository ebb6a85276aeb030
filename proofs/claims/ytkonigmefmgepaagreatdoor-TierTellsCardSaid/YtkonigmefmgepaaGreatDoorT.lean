/- Contracts: a call of the document's manager (own work). -/
import Derived.Test.YtkonigmefmgepaaGreatDoorQ
namespace Go.Proofs.YtkonigmefmgepaaGreatDoor
open Go.RowKit
set_option linter.unusedVariables false
set_option linter.unusedSimpArgs false

namespace M
def PM (s : RM) : Prop := ∀ e ∈ s.cache, 0 ≤ e.param
theorem PM.drop {s : RM} (h : PM s) (k : Int) : PM (dropR s k) := fun e he => h e (List.mem_filter.1 he).1
theorem PM.note {s : RM} (h : PM s) (k fn : Int) : PM (noteR s k fn) := h
theorem PM.room {s : RM} (h : PM s) : PM (roomR s) := by
  unfold roomR
  split
  · split
    · exact h
    · exact h.drop _
  · exact h
theorem PM.put {s : RM} (h : PM s) {e : Ent} (he : 0 ≤ e.param) : PM (putR s e) := by
  intro x hx
  rcases List.mem_append.1 hx with hx | hx
  · exact h.room x hx
  · simp only [List.mem_singleton] at hx
    subst hx
    exact he
theorem PM.mid {s : RM} (h : PM s) (f : Fn) (fn : Nat) (pick : Int) (args : List Int) : PM (midR s f fn pick args).2 := by
  unfold midR
  split
  · refine (h.note 1 fn).put ?_
    unfold entR
    split <;> simp
  split
  · exact h.drop _
  · exact h
theorem room_le (s : RM) : (roomR s).cache.length ≤ s.cache.length ∧ (roomR s).events.length ≤ s.events.length + 1 := by
  unfold roomR
  split
  · split
    · exact ⟨Nat.le_refl _, Nat.le_succ _⟩
    · exact ⟨List.length_filter_le _ _, by simp [dropR, noteR]⟩
  · exact ⟨Nat.le_refl _, Nat.le_succ _⟩
theorem put_le (s : RM) (e : Ent) : (putR s e).cache.length ≤ s.cache.length + 1 ∧ (putR s e).events.length ≤ s.events.length + 1 := by
  have := room_le s
  refine ⟨?_, this.2⟩
  show ((roomR s).cache ++ [e]).length ≤ _
  rw [List.length_append, List.length_singleton]
  omega
theorem drop_eq {s : RM} {i : Nat} {e : Ent} (hnd : (s.cache.map (·.fn)).Nodup) (hi : s.cache[i]? = some e) : ({ s with events := s.events ++ [(4, e.fn)], cache := s.cache.eraseIdx i } : RM) = dropR s e.fn := by
  unfold dropR noteR
  simp only
  congr 1
  have key : ∀ (cs : List Ent) (i : Nat), (cs.map (·.fn)).Nodup → cs[i]? = some e → cs.eraseIdx i = cs.filter fun x => x.fn != e.fn := by
    intro cs
    induction cs with
    | nil => intro i _ h; simp at h
    | cons c cs ih =>
      intro i hn h
      simp only [List.map_cons, List.nodup_cons] at hn
      cases i with
      | zero =>
        simp only [List.getElem?_cons_zero, Option.some.injEq] at h
        subst h
        rw [List.eraseIdx_zero, List.tail_cons, List.filter_cons, if_neg (by simp)]
        rw [List.filter_eq_self.2]
        intro q hq
        simp only [bne_iff_ne, ne_eq]
        intro hqq
        exact hn.1 (by rw [← hqq]; exact List.mem_map_of_mem hq)
      | succ i =>
        simp only [List.getElem?_cons_succ] at h
        rw [List.eraseIdx_cons_succ, List.filter_cons, if_pos, ih i hn.2 h]
        simp only [bne_iff_ne, ne_eq]
        intro hq
        exact hn.1 (by rw [hq]; exact List.mem_map_of_mem (List.mem_of_getElem? h))
  exact key _ _ hnd hi
end M

section
variable {W0 : World} {l : List As} {K : Value → C} {pn : Pn}

abbrev Tells (W0 : World) (l : List As) (b : Nat) (r : (List M.Ins × Bool × Int) × M.RM) (K : Value → C) : Prop :=
  ∀ x' v', RFacts W0 r.2 x' → ((v', r.1.1) ∈ x'.ar ∨ (v' = .slice none 0 0 ∧ r.1.1 = [])) → Run W0 (refPs W0 b r.2 x' ++ l) (K (.tuple #[v', .bool r.1.2.1, IV r.1.2.2]))

theorem endR_c {b fn m : Nat} {c : Int} {av : Value} {s : M.RM} {x : RX} {args : List Int} (hf : RFacts W0 s x) (he : s.events.length ≤ 4294967000) (hn : s.cache.length ≤ 4294900) (hpm : M.PM s)
    (ha : Rd W0 [] 1 av m (numC args)) (h : Tells W0 l b (M.endR s fn args c) K) : Run W0 (refPs W0 b s x ++ l) (S10_k3 K pn (Ptr b) (IV fn) av (IV c)) := by
  unfold S10_k3
  have hlen : x.es.length = s.cache.length := by rw [← hf.cache]; simp
  refine findR_c (j := 0) (k := 2) rfl rfl hf (by omega) (fun i e hi hef hlk => ?_) fun hlk => ?_
  · unfold M.endR Tells at h
    rw [hlk] at h
    simp only at h
    rw [e_lss, dec_f (show ¬ (i : Int) < 0 by omega)]
    have hein := List.mem_of_getElem? hi
    have hear := hf.ea e hein
    have hp0 : 0 ≤ e.1.param := hpm e.1 (by rw [← hf.cache]; exact List.mem_map_of_mem hein)
    obtain ⟨q, hq⟩ : ∃ q : Nat, e.1.param = q := ⟨e.1.param.toNat, by omega⟩
    refine run_arr (j := 4) rfl fun harr => ?_
    obtain ⟨a, cc, hv, _⟩ := (harr _ hear).form
    clear harr
    simp only at hv
    try simp only [pureE, pureT, Nat.zero_add, Nat.reduceAdd, Bool.not_false, Bool.not_true]
    refine run_ld sc47 (cl1 (i := 0) rfl rfl) ?_
    refine run_row_rd 2 rfl fun hrd => ?_
    refine run_rd_idx un47 ty92 entV_len (by omega) hrd i hi fun b2 o2 hc2 => ?_
    refine run_lda ag92 ty92 rfl hc2 ?_
    refine run_alloc ty92 fun b12 => ?_
    refine run_st ty92 (i := 0) rfl rfl (by simp [entV, hv, Value.cells, Value.oneCell']) (by simp [Value.cells]) ?_
    refine run_to (pt b12 92 (entV e) :: (refPs W0 b s x ++ l)) (fun w hw => hw) ?_
    refine run_draw [pt b12 92 (entV e)] (St.one (i := 0) rfl) ?_
    try simp only [pureE, pureT, Nat.zero_add, Nat.reduceAdd, Bool.not_false, Bool.not_true]
    refine take_ld sc4 (cl1 (i := 0) rfl rfl) ?_
    have good : (e.1.made && M.argR args e.1.param != e.1.n) = false → Run W0 (pt b12 92 (entV e) :: (refPs W0 b s x ++ l)) (nextS P (V (Instr.loadAt 48 (.pointer (some ⟨b, 5, none⟩)))) (fun x60 => nextS P (V (Instr.build 53 #[(0, IV 2), (1, IV fn)])) (fun x63 => nextS P (V (Instr.buildSlice 48 1 #[(0, x63)])) (fun x64 =>
      nextS P (bltN .append #[48, 48] 48 #[false, false] #[x60, x64]) (fun x65 => nextS P (U (Instr.storeAt 48 (.pointer (some ⟨b, 5, none⟩)) x65)) (fun _ => nextS P (V (Instr.loadAt 41 (.pointer (some ⟨b12, 1, none⟩)))) (fun x130 => K (.tuple #[x130, .bool true, IV c])) pn) pn) pn) pn) pn) pn) := by
      intro hq
      rw [hq] at h
      simp only [Bool.false_eq_true, if_false] at h
      refine run_to (refPs W0 b s x ++ pt b12 92 (entV e) :: l) (fun w hw => hw.back) ?_
      refine noteR_c hf (by omega) fun ev' hf' => ?_
      refine run_ld sc41 (cl1 (i := 6) rfl rfl) ?_
      refine run_to (refPs W0 b (M.noteR s 2 fn) { x with ev := ev' } ++ l) (fun w hw => St.erase hw 6) ?_
      exact h _ _ hf' (.inl hear)
    cases hmd : e.1.made
    · rw [hmd] at good
      try simp only [pureE, pureT, Nat.zero_add, Nat.reduceAdd, Bool.not_false, Bool.not_true]
      refine run_and (St.one (i := 0) rfl) ?_
      exact good rfl
    · try simp only [pureE, pureT, Nat.zero_add, Nat.reduceAdd, Bool.not_false, Bool.not_true]
      refine take_ld sc3 (cl1 (i := 0) rfl rfl) ?_
      try simp only [pureE, pureT, Nat.zero_add, Nat.reduceAdd, Bool.not_false, Bool.not_true]
      refine take_ld sc2 (cl1 (i := 0) rfl rfl) ?_
      rw [hq]
      refine argR_c (args := args) (ha.mono fun w hw => hw.nil) ?_
      refine run_and (St.one (i := 0) rfl) ?_
      try simp only [pureE, pureT, Nat.zero_add, Nat.reduceAdd, Bool.not_false, Bool.not_true]
      rw [hmd] at good h
      rw [hq] at good h
      cases hb : M.argR args q != e.1.n
      · rw [hb] at good
        try simp only [pureE, pureT, Nat.zero_add, Nat.reduceAdd, Bool.not_false, Bool.not_true]
        exact good rfl
      · rw [hb] at h
        simp only [Bool.and_true, if_true] at h
        try simp only [pureE, pureT, Nat.zero_add, Nat.reduceAdd, Bool.not_false, Bool.not_true]
        refine run_to (refPs W0 b s x ++ pt b12 92 (entV e) :: l) (fun w hw => hw.back) ?_
        refine noteR_c hf (by omega) fun ev' hf' => ?_
        try simp only [pureE, pureT, Nat.zero_add, Nat.reduceAdd, Bool.not_false, Bool.not_true]
        refine run_to (refPs W0 b (M.noteR s 3 fn) { x with ev := ev' } ++ l) (fun w hw => St.erase hw 6) ?_
        exact h _ _ hf' (.inr (by simp))
  · unfold M.endR Tells at h
    rw [hlk] at h
    simp only at h
    try simp only [pureE, pureT, Nat.zero_add, Nat.reduceAdd, Bool.not_false, Bool.not_true]
    rw [dec_t (show (-1 : Int) < 0 by omega)]
    try simp only [pureE, pureT, Nat.zero_add, Nat.reduceAdd, Bool.not_false, Bool.not_true]
    exact h x _ hf (.inr (by simp))
end
end Go.Proofs.YtkonigmefmgepaaGreatDoor
