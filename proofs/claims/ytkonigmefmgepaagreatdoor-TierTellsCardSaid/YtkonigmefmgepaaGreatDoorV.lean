/- Contracts: a call of the document's manager, whole (own work). -/
import Derived.Test.YtkonigmefmgepaaGreatDoorT
namespace Go.Proofs.YtkonigmefmgepaaGreatDoor
open Go.RowKit
set_option linter.unusedVariables false
set_option linter.unusedSimpArgs false

section
variable {W0 : World} {l : List As} {K : Value → C} {pn : Pn}

theorem fnR_at {s : M.RM} {x : RX} {f : M.Fn} {fn : Nat} (hf : RFacts W0 s x) (hfn : s.fns[fn]? = some f) : ∃ g, x.gs[fn]? = some g ∧ g.1 = f := by
  have := hf.fns
  rw [← this, List.getElem?_map] at hfn
  cases hq : x.gs[fn]? with
  | none => rw [hq] at hfn; simp at hfn
  | some g => rw [hq] at hfn; simp only [Option.map_some, Option.some.injEq] at hfn; exact ⟨g, rfl, hfn⟩

theorem k2R_c {b fn m : Nat} {pick c : Int} {av : Value} {s : M.RM} {x : RX} {args : List Int} {at_ : Int} (hf : RFacts W0 s x) (he : s.events.length ≤ 4294966000) (hn : s.cache.length ≤ 4294800) (hpm : M.PM s) (hnd : (pick == 3) = true → (s.cache.map (·.fn)).Nodup)
    (ha : Rd W0 [] 1 av m (numC args)) (hat : (at_ = -1 ∧ (pick == 3 && (M.lookR s.cache fn).isSome) = false) ∨ ∃ (i : Nat) (e : EG), at_ = i ∧ x.es[i]? = some e ∧ e.1.fn = fn ∧ (M.lookR s.cache fn).isSome = true)
    (h : Tells W0 l b (M.endR (if pick == 3 && (M.lookR s.cache fn).isSome then M.dropR s fn else s) fn args c) K) : Run W0 (refPs W0 b s x ++ l) (S10_k2 K pn (Ptr b) (IV fn) av (IV pick) (IV c) (IV at_)) := by
  unfold S10_k2
  have hlen : x.es.length = s.cache.length := by rw [← hf.cache]; simp
  try simp only [pureE, pureT, Nat.zero_add, Nat.reduceAdd, Bool.not_false, Bool.not_true]
  cases h3 : pick == 3
  · rw [h3] at h
    simp only [Bool.false_and, Bool.false_eq_true, if_false] at h
    try simp only [pureE, pureT, Nat.zero_add, Nat.reduceAdd, Bool.not_false, Bool.not_true]
    exact endR_c hf (by omega) (by omega) hpm ha h
  rw [h3] at h hat
  try simp only [pureE, pureT, Nat.zero_add, Nat.reduceAdd, Bool.not_false, Bool.not_true]
  rcases hat with ⟨rfl, hno⟩ | ⟨i, e, rfl, hi, hef, hso⟩
  · simp only [Bool.true_and] at hno
    simp only [hno, Bool.and_false, Bool.false_eq_true, if_false] at h
    rw [dec_f (show ¬ (0 : Int) ≤ -1 by omega)]
    try simp only [pureE, pureT, Nat.zero_add, Nat.reduceAdd, Bool.not_false, Bool.not_true]
    exact endR_c hf (by omega) (by omega) hpm ha h
  · simp only [hso, Bool.and_self, if_true] at h
    rw [dec_t (show (0 : Int) ≤ (i : Int) by omega)]
    try simp only [pureE, pureT, Nat.zero_add, Nat.reduceAdd, Bool.not_false, Bool.not_true]
    refine evictR_c hf (by omega) (by omega) hi fun cv' ev' hf' => ?_
    have hci : s.cache[i]? = some e.1 := by rw [← hf.cache, List.getElem?_map, hi]; rfl
    have hdq : evI s i e.1.fn = M.dropR s fn := by rw [← hef]; exact M.drop_eq (hnd h3) hci
    rw [hdq] at hf' ⊢
    refine endR_c hf' (by simp [M.dropR, M.noteR]; omega) ?_ (hpm.drop _) ha h
    have := List.length_filter_le (fun y : M.Ent => y.fn != fn) s.cache
    show (s.cache.filter _).length ≤ _
    omega

theorem k1R_c {b fn m : Nat} {pick : Int} {av : Value} {s : M.RM} {x : RX} {f : M.Fn} {args : List Int} (hf : RFacts W0 s x) (he : s.events.length ≤ 4294960000) (hn : s.cache.length ≤ 4294000) (hcap : 1 ≤ s.cap) (hnd : (s.cache.map (·.fn)).Nodup) (hpm : M.PM s)
    (hfn : s.fns[fn]? = some f) (hp : 0 ≤ f.params ∧ f.params ≤ 8) (hR : ∀ y ∈ f.l, M.RI y) (hlen : f.l.length ≤ 4294967296) (ha : Rd W0 [] 1 av m (numC args)) (hA : ∀ a ∈ args, M.R a)
    (h : Tells W0 l b (M.endR (M.midR s f fn pick args).2 fn args (M.midR s f fn pick args).1) K) : Run W0 (refPs W0 b s x ++ l) (S10_k1 K pn (Ptr b) (IV fn) av (IV pick)) := by
  unfold S10_k1
  have hesl : x.es.length = s.cache.length := by rw [← hf.cache]; simp
  have old : ∀ (at_ : Int), ((pick == 1 || pick == 2) && !(M.lookR s.cache fn).isSome) = false → ((at_ = -1 ∧ (M.lookR s.cache fn).isSome = false) ∨ ∃ (i : Nat) (e : EG), at_ = i ∧ x.es[i]? = some e ∧ e.1.fn = fn ∧ (M.lookR s.cache fn).isSome = true) →
      Run W0 (refPs W0 b s x ++ l) (S10_k2 K pn (Ptr b) (IV fn) av (IV pick) (IV 0) (IV at_)) := by
    intro at_ hno hat
    unfold M.midR at h
    rw [hno] at h
    simp only [Bool.false_eq_true, if_false] at h
    refine k2R_c hf (by omega) (by omega) hpm (fun _ => hnd) ha ?_ ?_
    · rcases hat with ⟨h1, h2⟩ | h1
      · exact .inl ⟨h1, by rw [h2, Bool.and_false]⟩
      · exact .inr h1
    · cases hq : pick == 3 && (M.lookR s.cache fn).isSome
      · rw [hq] at h
        simp only [Bool.false_eq_true, if_false] at h ⊢
        exact h
      · rw [hq] at h
        simp only [if_true] at h ⊢
        exact h
  refine findR_c (j := 0) (k := 2) rfl rfl hf (by omega) (fun i e hi hef hlk => ?_) fun hlk => ?_
  · have hso : (M.lookR s.cache fn).isSome = true := by rw [hlk]; rfl
    have := old i (by rw [hso]; simp) (.inr ⟨i, e, rfl, hi, hef, hso⟩)
    try simp only [pureE, pureT, Nat.zero_add, Nat.reduceAdd, Bool.not_false, Bool.not_true]
    cases h1 : pick == 1
    · try simp only [pureE, pureT, Nat.zero_add, Nat.reduceAdd, Bool.not_false, Bool.not_true]
      cases h2 : pick == 2
      · try simp only [pureE, pureT, Nat.zero_add, Nat.reduceAdd, Bool.not_false, Bool.not_true]
        exact this
      · try simp only [pureE, pureT, Nat.zero_add, Nat.reduceAdd, Bool.not_false, Bool.not_true]
        rw [dec_f (show ¬ (i : Int) < 0 by omega)]
        try simp only [pureE, pureT, Nat.zero_add, Nat.reduceAdd, Bool.not_false, Bool.not_true]
        exact this
    · try simp only [pureE, pureT, Nat.zero_add, Nat.reduceAdd, Bool.not_false, Bool.not_true]
      rw [dec_f (show ¬ (i : Int) < 0 by omega)]
      try simp only [pureE, pureT, Nat.zero_add, Nat.reduceAdd, Bool.not_false, Bool.not_true]
      exact this
  · have hso : (M.lookR s.cache fn).isSome = false := by rw [hlk]; rfl
    -- compiled
    have new : (pick == 1 || pick == 2) = true → Run W0 (refPs W0 b s x ++ l) (callS P 28 #[Ptr b, IV fn, IV pick, av] (fun _ => nextS P (V (Instr.loadAt 34 (Ptr b))) (fun x65 => nextS P (V (Instr.indexAt 34 x65 (IV fn))) (fun x67 => nextS P (V (Instr.fieldAt 74 x67 4)) (fun x68 => nextS P (V (Instr.loadAt 41 x68)) (fun x69 =>
        nextS P (bltN .len #[41] 3 #[false] #[x69]) (fun x70 => nextS P (binN .mul 2 (Operand.const (Value.int IntKind.i64 2)) (Operand.tmp 70) (Value.int IntKind.i64 2) x70) (fun x71 => S10_k2 K pn (Ptr b) (IV fn) av (IV pick) x71 (IV (-1))) pn) pn) pn) pn) pn) pn) pn) := by
      intro h12
      have hcond : ((pick == 1 || pick == 2) && !(M.lookR s.cache fn).isSome) = true := by rw [h12, hso]; rfl
      have h3 : (pick == 3) = false := by
        cases hq : pick == 3
        · rfl
        · have : pick = 3 := by simpa using hq
          subst this
          simp at h12
      unfold M.midR at h
      rw [hcond, if_pos rfl] at h
      simp only at h
      refine compileR_c hf (by omega) (by omega) hcap hnd hfn hp hR hlen ha hA ?_
      have hpm' : M.PM (M.putR (M.noteR s 1 fn) (M.entR s f fn pick args)) := by
        refine (hpm.note 1 fn).put ?_
        unfold M.entR
        split <;> simp
      have hple := M.put_le (M.noteR s 1 fn) (M.entR s f fn pick args)
      have hnl : (M.noteR s 1 fn).cache.length = s.cache.length := rfl
      have hnl2 : (M.noteR s 1 fn).events.length = s.events.length + 1 := by simp [M.noteR]
      have hfn' : (M.putR (M.noteR s 1 fn) (M.entR s f fn pick args)).fns[fn]? = some f := by
        have : (M.putR (M.noteR s 1 fn) (M.entR s f fn pick args)).fns = s.fns := by
          show (M.roomR (M.noteR s 1 fn)).fns = s.fns
          unfold M.roomR
          split
          · split <;> rfl
          · rfl
        rw [this]; exact hfn
      generalize M.putR (M.noteR s 1 fn) (M.entR s f fn pick args) = s2 at *
      refine run_open 0 rfl fun x2 => ?_
      refine run_pur 5 rfl fun hf2 => ?_
      obtain ⟨g, hg, hgf⟩ := fnR_at hf2 hfn'
      have hgin := hf2.ga g (List.mem_of_getElem? hg)
      obtain ⟨gf, gv⟩ := g
      simp only at hgf
      subst hgf
      refine run_arr (j := 4) rfl fun harr => ?_
      obtain ⟨ga, gc, hgv, _⟩ := (harr _ hgin).form
      clear harr
      simp only at hgv
      subst hgv
      have hfnl : fn < x2.gs.length := (List.getElem?_eq_some_iff.1 hg).1
      refine run_ld sc34 (cl1 (i := 0) rfl rfl) ?_
      refine run_row_rd 1 rfl fun hrl => ?_
      refine run_rd_idx un34 ty74 fnG_len (by omega) hrl fn hg fun b2 o2 hc2 => ?_
      try simp only [pureE, pureT, Nat.zero_add, Nat.reduceAdd, Bool.not_false, Bool.not_true]
      refine run_ld sc41 (hc2.fld (k := 4) rfl) ?_
      try simp only [pureE, pureT, Nat.zero_add, Nat.reduceAdd, Bool.not_false, Bool.not_true]
      refine k2R_c hf2 (by omega) (by omega) hpm' (fun hq => by rw [h3] at hq; cases hq) ha (.inl ⟨rfl, by rw [h3]; rfl⟩) ?_
      rw [h3]
      simp only [Bool.false_and, Bool.false_eq_true, if_false]
      exact h
    have old' := fun hq => old (-1) hq (.inl ⟨rfl, hso⟩)
    try simp only [pureE, pureT, Nat.zero_add, Nat.reduceAdd, Bool.not_false, Bool.not_true]
    cases h1 : pick == 1
    · try simp only [pureE, pureT, Nat.zero_add, Nat.reduceAdd, Bool.not_false, Bool.not_true]
      cases h2 : pick == 2
      · try simp only [pureE, pureT, Nat.zero_add, Nat.reduceAdd, Bool.not_false, Bool.not_true]
        exact old' (by rw [h1, h2]; rfl)
      · try simp only [pureE, pureT, Nat.zero_add, Nat.reduceAdd, Bool.not_false, Bool.not_true]
        rw [dec_t (show (-1 : Int) < 0 by omega)]
        try simp only [pureE, pureT, Nat.zero_add, Nat.reduceAdd, Bool.not_false, Bool.not_true]
        exact new (by rw [h2]; simp)
    · try simp only [pureE, pureT, Nat.zero_add, Nat.reduceAdd, Bool.not_false, Bool.not_true]
      rw [dec_t (show (-1 : Int) < 0 by omega)]
      try simp only [pureE, pureT, Nat.zero_add, Nat.reduceAdd, Bool.not_false, Bool.not_true]
      exact new (by rw [h1]; rfl)

/-- What a code that is small is. -/
structure FnOk (f : M.Fn) : Prop where
  par : 0 ≤ f.params ∧ f.params ≤ 8
  rng : ∀ y ∈ f.l, M.RI y
  len : f.l.length ≤ 4294967296

theorem enterR_c {b m : Nat} {fn : Int} {av : Value} {s : M.RM} {args : List Int} (he : s.events.length ≤ 4294960000) (hn : s.cache.length ≤ 4294000) (hcap : 1 ≤ s.cap) (hnd : (s.cache.map (·.fn)).Nodup) (hpm : M.PM s)
    (hfs : ∀ f ∈ s.fns, FnOk f) (ha : Rd W0 [] 1 av m (numC args)) (hA : ∀ a ∈ args, M.R a) (h : Tells W0 l b (M.enterR s fn args) K) : Run W0 (refA W0 b s :: l) (callS P 10 #[Ptr b, IV fn, av] K pn) := by
  refine run_open 0 rfl fun x => ?_
  refine run_pur 5 rfl fun hf => ?_
  refine r10 ?_
  unfold S10
  have hgl : x.gs.length = s.fns.length := by rw [← hf.fns]; simp
  have out : (decide (fn < 1) || decide ((s.fns.length : Int) ≤ fn)) = true → Run W0 (refPs W0 b s x ++ l) (K (.tuple #[.slice none 0 0, .bool false, IV 0])) := by
    intro hq
    unfold M.enterR Tells at h
    rw [hq] at h
    simp only [if_true] at h
    exact h x _ hf (.inr (by simp))
  refine run_row_rd 1 rfl fun hrl => ?_
  obtain ⟨la, lc, hlv, _⟩ := hrl.form
  obtain ⟨ka, kc, hkv, _⟩ := hf.picks.form
  obtain ⟨lv, pv, kv, cv, ev, gs, es, ar⟩ := x
  simp only at hlv hkv hgl
  subst hlv
  subst hkv
  clear hrl
  try simp only [pureE, pureT, Nat.zero_add, Nat.reduceAdd, Bool.not_false, Bool.not_true]
  cases h1 : decide (fn < 1)
  case true =>
    try simp only [pureE, pureT, Nat.zero_add, Nat.reduceAdd, Bool.not_false, Bool.not_true]
    exact out (by rw [h1]; rfl)
  try simp only [pureE, pureT, Nat.zero_add, Nat.reduceAdd, Bool.not_false, Bool.not_true]
  refine run_ld sc34 (cl1 (i := 0) rfl rfl) ?_
  try simp only [pureE, pureT, Nat.zero_add, Nat.reduceAdd, Bool.not_false, Bool.not_true]
  rw [show decide ((gs.length : Int) ≤ fn) = decide ((s.fns.length : Int) ≤ fn) from by rw [hgl]]
  cases h2 : decide ((s.fns.length : Int) ≤ fn)
  case true =>
    try simp only [pureE, pureT, Nat.zero_add, Nat.reduceAdd, Bool.not_false, Bool.not_true]
    exact out (by rw [h2]; simp)
  try simp only [pureE, pureT, Nat.zero_add, Nat.reduceAdd, Bool.not_false, Bool.not_true]
  rw [decide_eq_false_iff_not] at h1 h2
  obtain ⟨k, rfl⟩ : ∃ k : Nat, fn = k := ⟨fn.toNat, by omega⟩
  obtain ⟨f, hfn⟩ : ∃ f, s.fns[k]? = some f := ⟨_, List.getElem?_eq_getElem (by omega)⟩
  have hok := hfs f (List.mem_of_getElem? hfn)
  have hT : M.enterR s k args = M.endR (M.midR (M.popR s) f k (s.picks.headD 0) args).2 k args (M.midR (M.popR s) f k (s.picks.headD 0) args).1 := by
    unfold M.enterR
    rw [decide_eq_false h1, decide_eq_false h2]
    simp only [Bool.or_self, Bool.false_eq_true, if_false, Int.toNat_natCast, hfn]
  rw [hT] at h
  refine run_ld sc26 (cl1 (i := 0) rfl rfl) ?_
  try simp only [pureE, pureT, Nat.zero_add, Nat.reduceAdd, Bool.not_false, Bool.not_true]
  by_cases hpk : 0 < s.picks.length
  case neg =>
    rw [dec_f (show ¬ (0 : Int) < (s.picks.length : Int) by omega)]
    try simp only [pureE, pureT, Nat.zero_add, Nat.reduceAdd, Bool.not_false, Bool.not_true]
    have hnil : s.picks = [] := List.eq_nil_of_length_eq_zero (by omega)
    have hpop : M.popR s = s := by
      unfold M.popR
      rw [hnil]
      simp only [List.tail_nil]
      rw [← hnil]
    rw [hpop, hnil] at h
    exact k1R_c hf he hn hcap hnd hpm hfn hok.par hok.rng hok.len ha hA h
  rw [dec_t (show (0 : Int) < (s.picks.length : Int) by omega)]
  try simp only [pureE, pureT, Nat.zero_add, Nat.reduceAdd, Bool.not_false, Bool.not_true]
  obtain ⟨p, ps, hps⟩ : ∃ p ps, s.picks = p :: ps := by
    cases hq : s.picks with
    | nil => rw [hq] at hpk; simp at hpk
    | cons p ps => exact ⟨p, ps, rfl⟩
  have hp0 : s.picks[0]? = some p := by rw [hps]; rfl
  have hrp : Rd W0 (refPs W0 b s ⟨.slice la gs.length lc, pv, .slice ka s.picks.length kc, cv, ev, gs, es, ar⟩ ++ l) 1 (.slice ka s.picks.length kc) s.picks.length (numC s.picks) := hf.picks.mono fun w hw => hw.nil
  refine run_ld sc26 (cl1 (i := 0) rfl rfl) ?_
  refine run_rd_idx un26 ty2 numV_len (by omega) hrp 0 hp0 fun b2 o2 hc2 => ?_
  refine run_ld sc2 hc2 ?_
  try simp only [pureE, pureT, Nat.zero_add, Nat.reduceAdd, Bool.not_false, Bool.not_true]
  refine run_ld sc26 (cl1 (i := 0) rfl rfl) ?_
  obtain ⟨v2, hv2, hr2⟩ := rd_cutLo' (k := .i64) un26 ty2 numV_len (by omega) hf.picks (i := 1) (by omega) hpk
  refine run_nx v2 hv2 ?_
  try simp only [pureE, pureT, Nat.zero_add, Nat.reduceAdd, Bool.not_false, Bool.not_true]
  obtain ⟨a2, c2, hv2', _⟩ := hr2.form
  subst hv2'
  refine run_st ty26 (i := 0) rfl rfl (by simp [Value.cells, Value.oneCell']) (by simp [refC]) ?_
  have hd1 : s.picks.drop 1 = (M.popR s).picks := by unfold M.popR; rw [List.drop_one]
  have hl1 : s.picks.length - 1 = (M.popR s).picks.length := by unfold M.popR; rw [List.length_tail]
  have hf' : RFacts W0 (M.popR s) ⟨.slice la gs.length lc, pv, .slice a2 (s.picks.length - 1) c2, cv, ev, gs, es, ar⟩ := by
    refine ⟨hf.fns, hf.cache, hf.ga, hf.ea, hf.pub, ?_⟩
    rw [hd1] at hr2
    rw [← hl1]
    exact hr2
  refine run_setPur 5 (RFacts W0 (M.popR s) ⟨.slice la gs.length lc, pv, .slice a2 (s.picks.length - 1) c2, cv, ev, gs, es, ar⟩) rfl hf' ?_
  refine run_to (refPs W0 b (M.popR s) ⟨.slice la gs.length lc, pv, .slice a2 (s.picks.length - 1) c2, cv, ev, gs, es, ar⟩ ++ l) (fun w hw => hw) ?_
  rw [show s.picks.headD 0 = p by rw [hps]; rfl] at h
  exact k1R_c hf' he hn hcap hnd hpm hfn hok.par hok.rng hok.len ha hA h
end
end Go.Proofs.YtkonigmefmgepaaGreatDoor
