/- What the listed variables give the walks; a witness (own work). -/
import Derived.Test.YtkonigmefmgepaaGreatDoorR
import Derived.Test.YtkonigmefmgepaaGreatDoorRows
import Derived.Lib.LaidTab
import Derived.LaidMore
import Derived.LaidLaws
import Derived.OpenShut
import Derived.MakeChecks
import Derived.Stop.Joined
import Derived.ProofKit
namespace Go.Proofs.YtkonigmefmgepaaGreatDoor
open Go.RowKit Go.Deep Go.ChangeShapes Go.WideShapes
set_option linter.unusedVariables false
set_option linter.unusedSimpArgs false
set_option maxRecDepth 100000

def laidL : List (String × DataW Unit) := [("math/bits.deBruijn32tab", Rows.laid_math_bits_deBruijn32tab), ("math/bits.deBruijn64tab", Rows.laid_math_bits_deBruijn64tab), ("internal/strconv.uint64pow10", Rows.laid_internal_strconv_uint64pow10), ("evenhand/code.sorts", Rows.laid_evenhand_code_sorts)]
def sortD {H : Type} (e : List UInt8 × Int × Int × Int × Int) : DataW H := .agg [.lit (.string e.1), .lit (.int .i64 e.2.1), .lit (.int .i64 e.2.2.1), .lit (.int .i64 e.2.2.2.1), .lit (.int .i64 e.2.2.2.2)]
theorem sorts_datum {H : Type} : (Rows.laid_evenhand_code_sorts : DataW H) = .agg (sortsM.map sortD) := rfl
theorem pow_datum {H : Type} : (Rows.laid_internal_strconv_uint64pow10 : DataW H) = Lib.tabData .u64 Lib.pow10Tab := rfl
theorem st128 : P.underlying 128 = some (.struct (fs_ 128)) := by kernel_rfl
theorem so128 : (fs_ 128).toList.map (fun f => (f.type, f.offset)) = [(9, 0), (3, 1), (3, 2), (2, 3), (3, 4)] := by kernel_rfl

theorem sort_cells {H : Type} {enc : TypeId × Value → H} {W : World} {sp : Nat → Bool} {held : Bool} {n : Nat} {cs : List Value} {x : DataW H × List MemPlace} {e : List UInt8 × Int × Int × Int × Int}
    (h : DataW.trod enc P W 0 sp held n 128 cs = some x) (hx : x.1 = sortD e) : cs = sortV e := by
  obtain ⟨xs, m, rfl, rfl, hl, hsz, hf⟩ := DataW.trod_struct st128 h
  rw [show P.cellsOf 128 = 5 from (cellsOf_ty ty128).1] at hl
  obtain ⟨c0, c1, c2, c3, c4, rfl⟩ := len_five hl
  have at_ : ∀ (i : Nat) T o, ([(9, 0), (3, 1), (3, 2), (2, 3), (3, 4)] : List (Nat × Nat))[i]? = some (T, o) → DataW.trod enc P W 0 sp held m T (([c0, c1, c2, c3, c4].drop o).take (P.cellsOf T)) = xs[i]? := by
    intro i T o hi
    rw [← so128, List.getElem?_map] at hi
    obtain ⟨f, hfi, he⟩ := Option.map_eq_some_iff.1 hi
    simp only [Prod.mk.injEq] at he
    obtain ⟨rfl, rfl⟩ := he
    exact hf i f (by simpa using hfi)
  have h0 := at_ 0 9 0 rfl
  have h1 := at_ 1 3 1 rfl
  have h2 := at_ 2 3 2 rfl
  have h3 := at_ 3 2 3 rfl
  have h4 := at_ 4 3 4 rfl
  rw [(cellsOf_ty ty3).1] at h1 h2 h4
  rw [(cellsOf_ty ty9).1] at h0
  rw [(cellsOf_ty ty2).1] at h3
  have hxl := congrArg (fun d => match d with | DataW.agg ps => ps | _ => []) hx
  simp only [sortD] at hxl
  have hlen := congrArg List.length hxl
  simp only [List.length_map, List.length_cons, List.length_nil] at hlen
  match xs, hlen, hxl, h0, h1, h2, h3, h4 with
  | [y0, y1, y2, y3, y4], _, hxl, h0, h1, h2, h3, h4 =>
    simp only [List.map_cons, List.map_nil, List.cons.injEq, and_true] at hxl
    obtain ⟨q0, q1, q2, q3, q4⟩ := hxl
    obtain ⟨s, k0, z0, _⟩ := DataW.trod_string un9 (show _ = some y0 from h0)
    obtain ⟨a1, k1, z1, _⟩ := DataW.trod_int un3 (show _ = some y1 from h1)
    obtain ⟨a2, k2, z2, _⟩ := DataW.trod_int un3 (show _ = some y2 from h2)
    obtain ⟨a3, k3, z3, _⟩ := DataW.trod_int un2 (show _ = some y3 from h3)
    obtain ⟨a4, k4, z4, _⟩ := DataW.trod_int un3 (show _ = some y4 from h4)
    subst z0; subst z1; subst z2; subst z3; subst z4
    simp at k0 k1 k2 k3 k4 q0 q1 q2 q3 q4
    subst k0; subst k1; subst k2; subst k3; subst k4
    unfold sortV
    rw [← q0, ← q1, ← q2, ← q3, ← q4]

theorem gSorts : P.globalNamed "evenhand/code.sorts" = some 0 := by kernel_rfl
theorem tSorts : (P.globals[0]?).map (·.type) = some 145 := by kernel_rfl
theorem laid_plain : (laidL.all fun x => x.2.handleName?.isNone) = true := by kernel_rfl
theorem gPow : P.globalNamed "internal/strconv.uint64pow10" = some 1 := by kernel_rfl

theorem laidMet_tl {P : Program} {W : World} {x : String × DataW Unit} {rest : List (String × DataW Unit)} (h : laidMet P (x :: rest) W) : laidMet P rest W := by
  obtain ⟨n, d⟩ := x
  obtain ⟨ps, ⟨g, t, cs, f, p, q, _, _, _, _, h5, h6⟩, h7, h8⟩ := h
  subst h6
  exact ⟨q, h5, (List.nodup_append.1 h7).2.1, fun b off hb => h8 b off (List.mem_append_right _ hb)⟩
theorem glb_of_laid {W : World} (h : laidMetH P laidL W) : Glb W := by
  rw [MakeChecks.laidMetH_plain _ _ _ laid_plain] at h
  have h1 := laidMet_tl (laidMet_tl h)
  have hpow : Lib.TabIs P W "internal/strconv.uint64pow10" .u64 Lib.pow10Tab := by
    refine Lib.tabIs_of_head (n := 20) (t := 171) (e := 152) gPow (by kernel_rfl) (by kernel_rfl) (by kernel_rfl) (by kernel_rfl) (by kernel_rfl) h1
  have h2 := laidMet_tl h1
  obtain ⟨ps, ⟨g0, t0, cs0, f0, p0, q0, hg0, ht0, hv0, hd0, _, _⟩, _, _⟩ := h2
  obtain rfl := Option.some.inj (gSorts.symm.trans hg0)
  obtain rfl := Option.some.inj (tSorts.symm.trans ht0)
  refine ⟨hpow, ?_, ?_⟩
  · unfold World.var? at hv0
    rw [gSorts] at hv0
    rcases Nat.lt_or_ge 0 W.heap.size with h | h
    · exact h
    · simp only [Option.bind_some] at hv0
      rw [Array.getElem?_eq_none (by omega)] at hv0
      simp at hv0
  · intro j v hj
    rw [World.var?_cell gSorts hv0 j]
    rw [sorts_datum] at hd0
    obtain ⟨xs, m1, rfl, hx1, hlen, hn, hel⟩ := DataW.trod_array un145 hd0
    obtain ⟨i, r, e, h1, h2, rfl, hr⟩ := flat_at sortV_len hj
    have hi : i < 26 := (List.getElem?_eq_some_iff.1 h1).1
    have hxe : xs.map (·.1) = sortsM.map sortD := by
      have := congrArg Prod.fst hx1
      simp only [DataW.agg.injEq] at this
      exact this.symm
    obtain ⟨y, hy⟩ : ∃ y, xs[i]? = some y := ⟨_, List.getElem?_eq_getElem (by omega)⟩
    have hye : y.1 = sortD e := by
      have := congrArg (·[i]?) hxe
      simp only [List.getElem?_map, hy, h1, Option.map_some, Option.some.injEq] at this
      exact this
    have hc := hel i hi
    rw [hy, (cellsOf_ty ty128).1] at hc
    have := sort_cells hc hye
    have h3 : (cs0.toList.drop (i * 5))[r]? = some v := by
      have h4 : ((cs0.toList.drop (i * 5)).take 5)[r]? = some v := by rw [this]; exact h2
      rw [List.getElem?_take] at h4
      rw [if_pos hr] at h4
      exact h4
    rw [List.getElem?_drop] at h3
    simpa using h3

/-- The door's own heap meets the condition. -/
theorem door_met (os : Os) (args : Array Value) : laidMetH P laidL ((World.doorLaid P 55 os).forCall (fun _ _ => 0) ⟨#[], args, []⟩).memory :=
  laidMetH_of_parts3 (fuel := 8) (laidMet_of_run' 8 (by kernel_rfl) (by kernel_rfl)) (by kernel_rfl) (by kernel_rfl)
theorem own : ownKnob Tryz.prog.godebug = none := by kernel_rfl
end Go.Proofs.YtkonigmefmgepaaGreatDoor
