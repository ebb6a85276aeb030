/- Contracts: what a manager sees, compiles, throws away (own work). -/
import Derived.Test.YtkonigmefmgepaaDoorW11
namespace Go.Proofs.YtkonigmefmgepaaDoor
open Go.RowKit
set_option linter.unusedVariables false
set_option linter.unusedSimpArgs false

def ggset (k : Int) (x : Int × Int) (c : Nat) : List GG → List GG
  | [] => [(k, x, c)]
  | e :: es => if k = e.1 then (k, x, e.2.2) :: es else e :: ggset k x c es
theorem ggmget (k : Int) : ∀ gs : List GG, mget k (gs.map ggEnt) = (M.aget k gs).map (fun x => .agg #[IV x.1.1, IV x.1.2])
  | [] => rfl
  | e :: es => by
    simp only [List.map_cons, mget, M.aget, ggEnt]
    split
    · rfl
    · exact ggmget k es
theorem ggaget (k : Int) : ∀ gs : List GG, M.aget k (gs.map ggMod) = (M.aget k gs).map (·.1)
  | [] => rfl
  | e :: es => by
    simp only [List.map_cons, M.aget, ggMod]
    split
    · rfl
    · exact ggaget k es
theorem ggmdel (k : Int) : ∀ gs : List GG, mdel k (gs.map ggEnt) = (M.adel k gs).map ggEnt
  | [] => rfl
  | e :: es => by
    simp only [List.map_cons, mdel, M.adel, ggEnt]
    split
    · rfl
    · rw [ggmdel k es]; rfl
theorem ggadel (k : Int) : ∀ gs : List GG, M.adel k (gs.map ggMod) = (M.adel k gs).map ggMod
  | [] => rfl
  | e :: es => by
    simp only [List.map_cons, M.adel, ggMod]
    split
    · rfl
    · rw [ggadel k es]; rfl
theorem ggmset (k : Int) (x : Int × Int) (c : Nat) : ∀ gs : List GG, mset k (.agg #[IV x.1, IV x.2]) c (gs.map ggEnt) = (ggset k x c gs).map ggEnt
  | [] => rfl
  | e :: es => by
    simp only [List.map_cons, mset, ggset, ggEnt]
    split
    · rfl
    · rw [ggmset k x c es]; rfl
theorem ggaset (k : Int) (x : Int × Int) (c : Nat) : ∀ gs : List GG, M.aset k x (gs.map ggMod) = (ggset k x c gs).map ggMod
  | [] => rfl
  | e :: es => by
    simp only [List.map_cons, M.aset, ggset, ggMod]
    split
    · rfl
    · rw [ggaset k x c es]; rfl

section
variable {W0 : World} {l : List As} {K : Value → C} {pn : Pn}

theorem gone_c {i b : Nat} {t : MS} {s : M.Mgr} {fn : Int} (hi : l[i]? = some (mgrA b t s)) (he : s.events.length ≤ 4294967295) (h : Run W0 (l.set i (mgrA b t (M.goneM s fn))) (K (.tuple #[]))) : Run W0 l (callS P 28 #[Ptr b, IV fn] K pn) := by
  refine r28 ?_
  unfold S28
  refine run_open i hi fun g => ?_
  refine run_pur 10 rfl fun hg => ?_
  try simp only [pureE, pureT, Nat.zero_add, Nat.reduceAdd, Bool.not_false, Bool.not_true]
  refine run_ld sc57 (cl1 (i := 0) rfl rfl) ?_
  refine run_delete un57 un3 (i := 8) rfl ?_
  refine run_setPur 10 ((M.adel fn g.gg).map ggMod = M.adel fn s.guards ∧ t.fs.map (·.1) = s.fns ∧ t.ps.map (·.2) = s.pub) rfl ⟨by rw [← hg.1, ggadel], hg.2⟩ ?_
  refine run_to (mgrPs b t { s with guards := M.adel fn s.guards } { g with gg := M.adel fn g.gg } ++ l.eraseIdx i) (fun w hw => ?_) (run_shut l i _ hi ?_)
  · unfold mgrPs
    simp only
    rw [← ggmdel]
    exact hw
  refine note_c (set_get hi) he ?_
  rw [List.set_set]
  exact h

theorem seen_c {i b fn m : Nat} {t : MS} {s : M.Mgr} {av : Value} {args : List Int} (hi : l[i]? = some (mgrA b t s)) (hfn : fn < s.fns.length) (hr : Rd W0 l 1 av m (numC args))
    (h : ∀ v', Run W0 (row 2 1 v' (M.paramsM s fn) (numC (M.seenM s fn args)) :: l) (K v')) : Run W0 l (callS P 22 #[Ptr b, IV fn, av] K pn) := by
  refine r22 ?_
  unfold S22
  have hl : args.length = m := rd_len numV_len (by omega) hr
  have hk8 : M.paramsM s fn ≤ 8 := by unfold M.paramsM M.clamp8; split <;> omega
  refine params_c hi hfn ?_
  unfold M.seenM at h
  generalize hkk : M.paramsM s fn = k at *
  refine run_makeSlice un26 ty2 rfl (n := k) (by unfold maxLen; omega) (by omega) fun sb => ?_
  refine run_rowOfPt 0 1 k rfl (by rw [length_zeros]; rfl) (by unfold maxLen; omega) ?_
  have hz : zeros (IV 0) k = numC (List.replicate k 0) := by
    rw [zeros_one rfl]
    have : ∀ k, List.replicate k (IV 0) = numC (List.replicate k 0) := by
      intro k
      induction k with
      | zero => rfl
      | succ k ih => rw [List.replicate_succ, List.replicate_succ, ih]; rfl
    exact this k
  rw [hz]
  let base : Nat → List Int := fun q => (List.range k).map fun j => if j < q ∧ M.openM s.pub fn j = false then 0 else (args[j]?).getD 0
  have hbl : ∀ q, (base q).length = k := by intro q; simp [base]
  refine run_copy_row' un26 ty2 (i := 0) rfl (hr.mono fun _ hw => hw.tail) (flat_one numV_one _) ?_ ?_
  · rw [Nat.zero_add, List.length_take, flat_len numV_len, flat_len numV_len, List.length_replicate]; omega
  have hcp : splice (numC (List.replicate k 0)) 0 ((numC args).take (min m k * 1)) = numC (base 0) := by
    rw [flat_take numV_len]
    have := flat_splice (f := numV) numV_len (List.replicate k 0) (args.take (min m k)) 0
    rw [Nat.zero_mul] at this
    rw [this]
    congr 1
    apply List.ext_getElem?
    intro j
    simp only [List.take_zero, List.nil_append, Nat.zero_add, base, List.getElem?_map, List.length_take]
    rcases Nat.lt_or_ge j (min m k) with h1 | h1
    · rw [List.getElem?_append_left (by rw [List.length_take]; omega), List.getElem?_take, if_pos h1, List.getElem?_range (by omega)]
      obtain ⟨x, hx⟩ : ∃ x, args[j]? = some x := ⟨_, List.getElem?_eq_getElem (by omega)⟩
      rw [hx]; simp [hx]
    · rw [List.getElem?_append_right (by rw [List.length_take]; omega), List.getElem?_drop, List.length_take]
      rcases Nat.lt_or_ge j k with h2 | h2
      · rw [List.getElem?_range h2, show min (min m k) args.length + (j - min (min m k) args.length) = j by omega]
        simp only [Option.map_some, Nat.not_lt_zero, false_and, if_false]
        rw [List.getElem?_eq_none (show args.length ≤ j by omega)]
        rw [List.getElem?_replicate, if_pos h2]; rfl
      · rw [List.getElem?_eq_none (by simp; omega), List.getElem?_eq_none (by simp; omega)]; rfl
  rw [hcp]
  try simp only [pureE, pureT, Nat.zero_add, Nat.reduceAdd, Bool.not_false, Bool.not_true]
  refine run_loop (Inv := fun q : Nat => q ≤ k) (J := fun q => [Ptr b, IV fn, .slice (some ⟨sb, 0, none⟩) k k, IV k, IV q]) (H := fun q => row 2 1 (.slice (some ⟨sb, 0, none⟩) k k) k (numC (base q)) :: l) (μ := fun q => k - q) 0 (by omega) rfl (fun w hw => hw) ?_
  intro q e hq he
  simp only [List.map_cons, List.map_nil, List.cons.injEq, and_true] at he
  obtain ⟨e0, e1, e7, e17, e18⟩ := he
  unfold S22_l1
  simp only [e0, e1, e7, e17, e18]
  try simp only [pureE, pureT, Nat.zero_add, Nat.reduceAdd, Bool.not_false, Bool.not_true]
  by_cases hlt : q < k
  · rw [dec_t (show (q : Int) < k by omega)]
    try simp only [pureE, pureT, Nat.zero_add, Nat.reduceAdd, Bool.not_false, Bool.not_true]
    refine open_c (i := i + 1) (by simpa using hi) ?_
    unfold S22_k2
    try simp only [pureE, pureT, Nat.zero_add, Nat.reduceAdd, Bool.not_false, Bool.not_true]
    rw [wrN (x := (q : Int) + 1) (q + 1) (by omega) (by omega)]
    cases ho : M.openM s.pub fn q
    · try simp only [pureE, pureT, Nat.zero_add, Nat.reduceAdd, Bool.not_false, Bool.not_true]
      refine run_nx _ (fun w => pv_idx un26 ty2 (i := (q : Int)) (by omega) (by omega)) ?_
      rw [Int.toNat_natCast, Nat.zero_add, Nat.mul_one]
      refine run_setRow ty2 (i := 0) rfl rfl rfl (by rw [flat_len numV_len, hbl]; omega) ?_
      refine fun w hw => ⟨q + 1, by omega, by omega, rfl, ?_⟩
      have e1 : (numC (base q)).set q (IV 0) = numC (base (q + 1)) := by
        have := flat_splice1 (f := numV) numV_len (base q) 0 (k := q) (by rw [hbl]; omega)
        rw [Nat.mul_one, splice_one _ _ _ (by rw [flat_len numV_len, hbl]; omega)] at this
        rw [this]
        congr 1
        apply List.ext_getElem?
        intro j
        rw [List.getElem?_set]
        by_cases hj : q = j
        · subst hj
          rw [if_pos rfl, if_pos (by rw [hbl]; exact hlt)]
          simp [base, hlt, ho]
        · rw [if_neg hj]
          simp only [base, List.getElem?_map]
          rcases Nat.lt_or_ge j k with h2 | h2
          · rw [List.getElem?_range h2]
            simp only [Option.map_some]
            congr 2
            simp only [eq_iff_iff]
            constructor
            · rintro ⟨h3, h4⟩; exact ⟨by omega, h4⟩
            · rintro ⟨h3, h4⟩; exact ⟨by omega, h4⟩
          · rw [List.getElem?_eq_none (by simpa using h2)]; rfl
      rw [← e1]
      exact hw
    · try simp only [pureE, pureT, Nat.zero_add, Nat.reduceAdd, Bool.not_false, Bool.not_true]
      refine fun w hw => ⟨q + 1, by omega, by omega, rfl, ?_⟩
      have e1 : base (q + 1) = base q := by
        apply List.map_congr_left
        intro j hj
        congr 1
        simp only [eq_iff_iff]
        constructor
        · rintro ⟨h3, h4⟩
          refine ⟨?_, h4⟩
          rcases Nat.lt_or_ge j q with h5 | h5
          · exact h5
          · obtain rfl : j = q := by omega
            rw [ho] at h4; exact absurd h4 (by simp)
        · rintro ⟨h3, h4⟩; exact ⟨by omega, h4⟩
      rw [e1]
      exact hw
  · rw [dec_f (show ¬ (q : Int) < k by omega)]
    try simp only [pureE, pureT, Nat.zero_add, Nat.reduceAdd, Bool.not_false, Bool.not_true]
    have e1 : base q = (List.range k).map fun i => if M.openM s.pub fn i then (args[i]?).getD 0 else 0 := by
      apply List.map_congr_left
      intro j hj
      have hjk : j < k := by simpa using hj
      cases ho : M.openM s.pub fn j
      · rw [if_pos ⟨by omega, rfl⟩]; rfl
      · simp
    rw [e1]
    exact h _
end
end Go.Proofs.YtkonigmefmgepaaDoor
