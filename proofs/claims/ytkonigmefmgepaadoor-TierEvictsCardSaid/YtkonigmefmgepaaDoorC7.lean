/- The law 'TierEvicts' holds of the given program for every input: as many functions are kept as there is room for, and the oldest one goes. Conditions: those of the given statement alone. -/
import Derived.Test.YtkonigmefmgepaaDoorH
import Derived.Test.YtkonigmefmgepaaDoorW27
namespace Go.Proofs.YtkonigmefmgepaaDoor
open Go.RowKit Go.Deep Go.ChangeShapes Go.WideShapes
set_option linter.unusedVariables false
set_option linter.unusedSimpArgs false
set_option maxRecDepth 100000

theorem evicts_params : Tryd.f7.params = #[3, 3] := by kernel_rfl
theorem evicts_lifted (os : Os) (started : os.Started) (H : Type) (enc : TypeId × Value → H) :
    ReturnsInHanded {} Tryd.checked os 7 .any (fun w args => (Rows.tierEvictsSpec.pre enc Tryd.prog Tryd.f7 [] false w args ∧ laidMetH Tryd.prog laidL w) ∧ sizedMet enc Tryd.prog Tryd.f7 (OpenSpec.ofChange Rows.tierEvictsSpec) false w args)
      (Rows.tierEvictsSpec.post enc Tryd.prog Tryd.f7 false true false false) := by
  refine returnsInHanded_of_change_and (C := Tryd.checked) (X := fun w _ => laidMetH Tryd.prog laidL w) (fun _ _ _ hh h => h.of_heap hh) own started (by kernel_rfl) Tryd.func7
    (ChangeSpec.witness_shaped (enc := enc) (C := Tryd.checked) (os := os) (X := fun w _ => laidMetH Tryd.prog laidL w) false (World.doorLaid Tryd.prog 55 os) #[.int .i64 0, .int .i64 0] 8 rfl (World.shaped_of_RefB (by kernel_rfl) (by kernel_rfl)) (by kernel_rfl) (by kernel_rfl) (by kernel_rfl) (door_met os _)) ?_
  intro W base args ds gs before hval0 hW _ hsz hL _
  have hval : ∀ (j : Nat) t v, Tryd.f7.params[j]? = some t → args[j]? = some v → Value.okWide P W .any base t v := hval0
  refine law_of en7 rfl (by rw [evicts_params]; intro t ht; simp at ht; subst ht; exact ⟨by kernel_rfl, of_decide_eq_true (by kernel_rfl)⟩) (by kernel_rfl) (fun ds hd => ?_) hW ?_
  · rw [evicts_params] at hd
    match ds, hd with
    | [d0, d1], _ => rfl
  obtain ⟨p, q, hA0, hV, rfl, _⟩ := hW
  have hA : DataW.TrodAll enc P W 0 (fun _ => true) true Tryd.f7.params.toList args.toList ds p := hA0
  rw [evicts_params] at hA hval
  obtain ⟨v0, vs0, d0, ds0, p0, q0, hv0, rfl, _, ⟨f0, h0⟩, hA⟩ := trodAll_cons hA
  obtain ⟨v1, vs1, d1, ds1, p1, q1, rfl, rfl, _, ⟨f1, h1⟩, hA⟩ := trodAll_cons hA
  obtain ⟨rfl, rfl, _⟩ := trodAll_nil hA
  have ha : args = #[v0, v1] := Array.ext' (by simpa using hv0)
  subst ha
  have hs : ∀ (j t : Nat) d, ([3, 3] : List Nat)[j]? = some t → [d0, d1][j]? = some d → Fits t d := by
    intro j t d ht hd
    have hsz' : (DataW.weightsEach P (Tryd.f7.params.toList ++ Rows.tierEvictsSpec.plain.varTypes P) ([d0, d1] ++ gs)).all (· ≤ reachBytes) = true := hsz
    rw [evicts_params] at hsz'
    exact rd_arg hsz' (by rw [List.getElem?_append_left (List.getElem?_eq_some_iff.1 ht).1]; exact ht) (by rw [List.getElem?_append_left (List.getElem?_eq_some_iff.1 hd).1]; exact hd)
  obtain ⟨n0, hn0, hR0⟩ := rd_num un3 h0 (hs 0 3 d0 rfl rfl)
  obtain ⟨n1, hn1, hR1⟩ := rd_num un3 h1 (hs 1 3 d1 rfl rfl)
  obtain rfl := arg_int hn0 (hval 0 3 v0 rfl rfl) un3
  obtain rfl := arg_int hn1 (hval 1 3 v1 rfl rfl) un3
  exact evicts_c (glb_of_laid hL) run_done

theorem evicts_row : Rows.TierEvictsSaid :=
  OpenClaim.holds_of_wide 7 Tryd.f7 rfl rfl rfl rfl rfl rfl rfl ⟨rfl, rfl, rfl, rfl, rfl⟩ rfl rfl rfl rfl rfl (by kernel_rfl) Tryd.func7 (by kernel_rfl)
    (of_decide_eq_true (by kernel_rfl)) (by unfold Func.isWrapper; first | (rw [if_pos (by decide +kernel)]; kernel_rfl) | (rw [if_neg (by decide +kernel)]; exact ⟨rfl, rfl⟩))
    (fun os started H enc _ => evicts_lifted os started H enc)
theorem evicts_holds : Rows.TierEvictsCardSaid :=
  Claim7.holds_tied_plain_at .later [] [.data, .data, .data, .data] true (true, "cf3a65b70b1d1d27cadebc81e2a59010c7a2895420f230fb49c697d441fe46e5") false
    evicts_row (fun _ h => by cases h) (by kernel_rfl) (fun _ h => by cases h) tierEvicts_row_tie rfl ⟨rfl, rfl⟩ (by kernel_rfl) rfl
    (fun f fn hf hfn => by
      obtain rfl : f = 7 := Option.some.inj ((show Tryd.prog.funcNamed "evenhand/evenhandlaw19.TierEvicts" = some 7 by kernel_rfl).symm.trans hf) |>.symm
      obtain rfl : fn = Tryd.f7 := (Option.some.inj (Tryd.func7.symm.trans hfn)).symm
      exact ⟨by kernel_rfl, fun j t ht => by
        rw [evicts_params] at ht
        have hm := Array.mem_of_getElem? ht
        simp only [List.mem_toArray, List.mem_cons, List.not_mem_nil, or_false] at hm
        rcases hm with rfl | rfl
        · exact (show Tryd.prog.wantsStandIn 3 = false by kernel_rfl)
        · exact (show Tryd.prog.wantsStandIn 3 = false by kernel_rfl)⟩)
    (by kernel_rfl)
#print axioms evicts_holds
end Go.Proofs.YtkonigmefmgepaaDoor
