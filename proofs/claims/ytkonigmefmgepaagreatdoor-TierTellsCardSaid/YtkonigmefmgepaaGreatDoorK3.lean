/- The law 'TierTells' holds of the given program for every input: which body is run is what the document says. Conditions: those of the given statement alone. -/
import Derived.Test.YtkonigmefmgepaaGreatDoorH
import Derived.Test.YtkonigmefmgepaaGreatDoorY
namespace Go.Proofs.YtkonigmefmgepaaGreatDoor
open Go.RowKit Go.Deep Go.ChangeShapes Go.WideShapes
set_option linter.unusedVariables false
set_option linter.unusedSimpArgs false
set_option maxRecDepth 100000

theorem tells_params : Tryz.f3.params = #[24, 25, 3, 26, 27] := by kernel_rfl
theorem tells_lifted (os : Os) (started : os.Started) (H : Type) (enc : TypeId × Value → H) :
    ReturnsInHanded {} Tryz.checked os 3 .any (fun w args => (Rows.tierTellsSpec.pre enc Tryz.prog Tryz.f3 [] false w args ∧ laidMetH Tryz.prog laidL w) ∧ sizedMet enc Tryz.prog Tryz.f3 (OpenSpec.ofChange Rows.tierTellsSpec) false w args)
      (Rows.tierTellsSpec.post enc Tryz.prog Tryz.f3 false true false false) := by
  refine returnsInHanded_of_change_and (C := Tryz.checked) (X := fun w _ => laidMetH Tryz.prog laidL w) (fun _ _ _ hh h => h.of_heap hh) own started (by kernel_rfl) Tryz.func3
    (ChangeSpec.witness_shaped (enc := enc) (C := Tryz.checked) (os := os) (X := fun w _ => laidMetH Tryz.prog laidL w) false (World.doorLaid Tryz.prog 55 os) #[.agg #[.slice none 0 0], .slice none 0 0, .int .i64 0, .slice none 0 0, .slice none 0 0] 8 rfl (World.shaped_of_RefB (by kernel_rfl) (by kernel_rfl)) (by kernel_rfl) (by kernel_rfl) (by kernel_rfl) (door_met os _)) ?_
  intro W base args ds gs before hval0 hW _ hsz hL _
  have hval : ∀ (j : Nat) t v, Tryz.f3.params[j]? = some t → args[j]? = some v → Value.okWide P W .any base t v := hval0
  refine law_of en3 rfl (by rw [tells_params]; intro t ht; simp at ht; rcases ht with rfl | rfl | rfl | rfl | rfl <;> exact ⟨by kernel_rfl, of_decide_eq_true (by kernel_rfl)⟩) (by kernel_rfl) (fun ds hd => ?_) hW ?_
  · rw [tells_params] at hd
    match ds, hd with
    | [d0, d1, d2, d3, d4], _ => rfl
  obtain ⟨p, q, hA0, hV, rfl, _⟩ := hW
  have hA : DataW.TrodAll enc P W 0 (fun _ => true) true Tryz.f3.params.toList args.toList ds p := hA0
  rw [tells_params] at hA hval
  obtain ⟨v0, vs0, d0, ds0, p0, q0, hv0, rfl, _, ⟨f0, h0⟩, hA⟩ := trodAll_cons hA
  obtain ⟨v1, vs1, d1, ds1, p1, q1, rfl, rfl, _, ⟨f1, h1⟩, hA⟩ := trodAll_cons hA
  obtain ⟨v2, vs2, d2, ds2, p2, q2, rfl, rfl, _, ⟨f2, h2⟩, hA⟩ := trodAll_cons hA
  obtain ⟨v3, vs3, d3, ds3, p3, q3, rfl, rfl, _, ⟨f3, h3⟩, hA⟩ := trodAll_cons hA
  obtain ⟨v4, vs4, d4, ds4, p4, q4, rfl, rfl, _, ⟨f4, h4⟩, hA⟩ := trodAll_cons hA
  obtain ⟨rfl, rfl, _⟩ := trodAll_nil hA
  have ha : args = #[v0, v1, v2, v3, v4] := Array.ext' (by simpa using hv0)
  subst ha
  have hs : ∀ (j t : Nat) d, ([24, 25, 3, 26, 27] : List Nat)[j]? = some t → [d0, d1, d2, d3, d4][j]? = some d → Fits t d := by
    intro j t d ht hd
    have hsz' : (DataW.weightsEach P (Tryz.f3.params.toList ++ Rows.tierTellsSpec.plain.varTypes P) ([d0, d1, d2, d3, d4] ++ gs)).all (· ≤ reachBytes) = true := hsz
    rw [tells_params] at hsz'
    exact rd_arg hsz' (by rw [List.getElem?_append_left (List.getElem?_eq_some_iff.1 ht).1]; exact ht) (by rw [List.getElem?_append_left (List.getElem?_eq_some_iff.1 hd).1]; exact hd)
  obtain ⟨cv, gs', hcv, hc, hgood⟩ := rd_code h0 (hs 0 24 d0 rfl rfl)
  obtain ⟨pv, ps, hpv, hp, hp4, hp3⟩ := rd_pub h1 (hs 1 25 d1 rfl rfl)
  obtain ⟨n, hn, _⟩ := rd_num un3 h2 (hs 2 3 d2 rfl rfl)
  obtain ⟨kv, ks, hkv, hk, _⟩ := rd_nums h3 (hs 3 26 d3 rfl rfl)
  obtain ⟨lv, qs, hlv, hl⟩ := rd_asks h4 (hs 4 27 d4 rfl rfl)
  obtain ⟨cs0, rfl, _⟩ := okWide_struct st24 (hval 0 24 v0 rfl rfl)
  have e0 : cs0 = #[cv] := Array.ext' (by simpa [Value.cells] using hcv)
  subst e0
  obtain rfl := arg_slice un25 (hval 1 25 v1 rfl rfl) hpv
  obtain rfl := arg_int hn (hval 2 3 v2 rfl rfl) un3
  obtain rfl := arg_slice un26 (hval 3 26 v3 rfl rfl) hkv
  obtain rfl := arg_slice un27 (hval 4 27 v4 rfl rfl) hlv
  exact tells_c (glb_of_laid hL) hc (fun e he => (hgood e he).2.1) hp hk hl hp3 hp4 run_done

theorem tells_row : Rows.TierTellsSaid :=
  OpenClaim.holds_of_wide 3 Tryz.f3 rfl rfl rfl rfl rfl rfl rfl ⟨rfl, rfl, rfl, rfl, rfl⟩ rfl rfl rfl rfl rfl (by kernel_rfl) Tryz.func3 (by kernel_rfl)
    (of_decide_eq_true (by kernel_rfl)) (by unfold Func.isWrapper; first | (rw [if_pos (by decide +kernel)]; kernel_rfl) | (rw [if_neg (by decide +kernel)]; exact ⟨rfl, rfl⟩))
    (fun os started H enc _ => tells_lifted os started H enc)
theorem tells_holds : Rows.TierTellsCardSaid :=
  Claim7.holds_tied_plain_at .later [] [.data, .data, .data, .data] true (true, "c7194ef3e42c5d562118270d08583060597eaabda6239f71caa4d4960b36f25a") false
    tells_row (fun _ h => by cases h) (by kernel_rfl) (fun _ h => by cases h) tierTells_row_tie rfl ⟨rfl, rfl⟩ (by kernel_rfl) rfl
    (fun f fn hf hfn => by
      obtain rfl : f = 3 := Option.some.inj ((show Tryz.prog.funcNamed "evenhand/evenhandlaw19.TierTells" = some 3 by kernel_rfl).symm.trans hf) |>.symm
      obtain rfl : fn = Tryz.f3 := (Option.some.inj (Tryz.func3.symm.trans hfn)).symm
      exact ⟨by kernel_rfl, fun j t ht => by
        rw [tells_params] at ht
        have hm := Array.mem_of_getElem? ht
        simp only [List.mem_toArray, List.mem_cons, List.not_mem_nil, or_false] at hm
        rcases hm with rfl | rfl | rfl | rfl | rfl
        · exact (show Tryz.prog.wantsStandIn 24 = false by kernel_rfl)
        · exact (show Tryz.prog.wantsStandIn 25 = false by kernel_rfl)
        · exact (show Tryz.prog.wantsStandIn 3 = false by kernel_rfl)
        · exact (show Tryz.prog.wantsStandIn 26 = false by kernel_rfl)
        · exact (show Tryz.prog.wantsStandIn 27 = false by kernel_rfl)⟩)
    (by kernel_rfl)
#print axioms tells_holds
end Go.Proofs.YtkonigmefmgepaaGreatDoor
