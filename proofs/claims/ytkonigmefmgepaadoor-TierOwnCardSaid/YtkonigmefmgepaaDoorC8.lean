/- The law 'TierOwn' holds of the given program for every input: what is handed in may be written over, what is told is the caller's. Conditions: those of the given statement alone. -/
import Derived.Test.YtkonigmefmgepaaDoorH
import Derived.Test.YtkonigmefmgepaaDoorW28
namespace Go.Proofs.YtkonigmefmgepaaDoor
open Go.RowKit Go.Deep Go.ChangeShapes Go.WideShapes
set_option linter.unusedVariables false
set_option linter.unusedSimpArgs false
set_option maxRecDepth 100000

theorem own__params : Tryd.f8.params = #[26] := by kernel_rfl
theorem own__lifted (os : Os) (started : os.Started) (H : Type) (enc : TypeId × Value → H) :
    ReturnsInHanded {} Tryd.checked os 8 .any (fun w args => (Rows.tierOwnSpec.pre enc Tryd.prog Tryd.f8 [] false w args ∧ laidMetH Tryd.prog laidL w) ∧ sizedMet enc Tryd.prog Tryd.f8 (OpenSpec.ofChange Rows.tierOwnSpec) false w args)
      (Rows.tierOwnSpec.post enc Tryd.prog Tryd.f8 false true false false) := by
  refine returnsInHanded_of_change_and (C := Tryd.checked) (X := fun w _ => laidMetH Tryd.prog laidL w) (fun _ _ _ hh h => h.of_heap hh) own started (by kernel_rfl) Tryd.func8
    (ChangeSpec.witness_shaped (enc := enc) (C := Tryd.checked) (os := os) (X := fun w _ => laidMetH Tryd.prog laidL w) false (World.doorLaid Tryd.prog 55 os) #[.slice none 0 0] 8 rfl (World.shaped_of_RefB (by kernel_rfl) (by kernel_rfl)) (by kernel_rfl) (by kernel_rfl) (by kernel_rfl) (door_met os _)) ?_
  intro W base args ds gs before hval0 hW _ hsz hL _
  have hval : ∀ (j : Nat) t v, Tryd.f8.params[j]? = some t → args[j]? = some v → Value.okWide P W .any base t v := hval0
  refine law_of en8 rfl (by rw [own__params]; intro t ht; simp at ht; subst ht; exact ⟨by kernel_rfl, of_decide_eq_true (by kernel_rfl)⟩) (by kernel_rfl) (fun ds hd => ?_) hW ?_
  · rw [own__params] at hd
    match ds, hd with
    | [d0], _ => rfl
  obtain ⟨p, q, hA0, hV, rfl, _⟩ := hW
  have hA : DataW.TrodAll enc P W 0 (fun _ => true) true Tryd.f8.params.toList args.toList ds p := hA0
  rw [own__params] at hA hval
  obtain ⟨v0, vs0, d0, ds0, p0, q0, hv0, rfl, _, ⟨f0, h0⟩, hA⟩ := trodAll_cons hA
  obtain ⟨rfl, rfl, _⟩ := trodAll_nil hA
  have ha : args = #[v0] := Array.ext' (by simpa using hv0)
  subst ha
  have hs : ∀ (j t : Nat) d, ([26] : List Nat)[j]? = some t → [d0][j]? = some d → Fits t d := by
    intro j t d ht hd
    have hsz' : (DataW.weightsEach P (Tryd.f8.params.toList ++ Rows.tierOwnSpec.plain.varTypes P) ([d0] ++ gs)).all (· ≤ reachBytes) = true := hsz
    rw [own__params] at hsz'
    exact rd_arg hsz' (by rw [List.getElem?_append_left (List.getElem?_eq_some_iff.1 ht).1]; exact ht) (by rw [List.getElem?_append_left (List.getElem?_eq_some_iff.1 hd).1]; exact hd)
  obtain ⟨kv, ks, hkv, hk, hR⟩ := rd_nums h0 (hs 0 26 d0 rfl rfl)
  obtain rfl := arg_slice un26 (hval 0 26 v0 rfl rfl) hkv
  exact own_c (glb_of_laid hL) hk hR run_done

theorem own__row : Rows.TierOwnSaid :=
  OpenClaim.holds_of_wide 8 Tryd.f8 rfl rfl rfl rfl rfl rfl rfl ⟨rfl, rfl, rfl, rfl, rfl⟩ rfl rfl rfl rfl rfl (by kernel_rfl) Tryd.func8 (by kernel_rfl)
    (of_decide_eq_true (by kernel_rfl)) (by unfold Func.isWrapper; first | (rw [if_pos (by decide +kernel)]; kernel_rfl) | (rw [if_neg (by decide +kernel)]; exact ⟨rfl, rfl⟩))
    (fun os started H enc _ => own__lifted os started H enc)
theorem own__holds : Rows.TierOwnCardSaid :=
  Claim7.holds_tied_plain_at .later [] [.data, .data, .data, .data] true (true, "cf3a65b70b1d1d27cadebc81e2a59010c7a2895420f230fb49c697d441fe46e5") false
    own__row (fun _ h => by cases h) (by kernel_rfl) (fun _ h => by cases h) tierOwn_row_tie rfl ⟨rfl, rfl⟩ (by kernel_rfl) rfl
    (fun f fn hf hfn => by
      obtain rfl : f = 8 := Option.some.inj ((show Tryd.prog.funcNamed "evenhand/evenhandlaw19.TierOwn" = some 8 by kernel_rfl).symm.trans hf) |>.symm
      obtain rfl : fn = Tryd.f8 := (Option.some.inj (Tryd.func8.symm.trans hfn)).symm
      exact ⟨by kernel_rfl, fun j t ht => by
        rw [own__params] at ht
        have hm := Array.mem_of_getElem? ht
        simp only [List.mem_toArray, List.mem_cons, List.not_mem_nil, or_false] at hm
        subst hm
        · exact (show Tryd.prog.wantsStandIn 26 = false by kernel_rfl)⟩)
    (by kernel_rfl)
#print axioms own__holds
end Go.Proofs.YtkonigmefmgepaaDoor
