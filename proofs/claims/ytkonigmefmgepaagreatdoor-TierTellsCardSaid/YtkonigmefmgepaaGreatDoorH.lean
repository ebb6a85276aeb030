/- From a walk to a row (own work). -/
import Derived.Test.YtkonigmefmgepaaGreatDoorG
import Derived.Test.YtkonigmefmgepaaGreatDoorCards
import Derived.Test.YtkonigmefmgepaaGreatDoorTie
import Derived.SevenTiedAt
import Derived.ChangeCalls
namespace Go.Proofs.YtkonigmefmgepaaGreatDoor
open Go.RowKit Go.Deep Go.ChangeShapes Go.WideShapes
set_option linter.unusedVariables false
set_option linter.unusedSimpArgs false
set_option maxRecDepth 100000

section
variable {H : Type} {enc : TypeId × Value → H} {W : World}
abbrev saysTrue (W : World) : Value → C := fun v w => v = .bool true ∧ Below W.heap.size W w
abbrev noPanic : Pn := fun _ _ => False
theorem law_of {f : FuncId} {fn : Func} {s : ChangeSpec} {args : Array Value} {ds gs : List (DataW H)} {before : List MemPlace} (en : ∀ (args : Array Value) (w : World), (callFunc f args).run P w = .ok (.enter f args) w)
    (hv : s.vars = []) (hts : ∀ t ∈ fn.params.toList, P.readableRec t = true ∧ t < P.types.size) (hres : fn.resultTypes = #[4]) (hsf : ∀ ds : List (DataW H), ds.length = fn.params.toList.length → s.fn H ds = { results := [.lit (.bool true)], args := ds })
    (hW : DataW.Whole enc P fn.params.toList s.vars false W args.toList ds gs before) (hrun : Run W [] (callS P f args (saysTrue W) noPanic)) :
    Calls P f args W fun e W' => ∃ v, e = .returned v ∧ s.post enc P fn false true false false W args v W' := by
  have hgs : gs = [] := by
    obtain ⟨p, q, hA, hV, _⟩ := hW
    rw [hv] at hV
    cases gs with
    | nil => rfl
    | cons g r => exact absurd hV (by intro h; cases h)
  subst hgs
  have hdl : ds.length = fn.params.toList.length := by
    obtain ⟨p, q, hA, _⟩ := hW
    exact (Go.trodAll_length hA).2
  have h1 := (hrun W St.start).h.h
  rw [en args W] at h1
  refine Calls.mono h1 fun e W' he => ?_
  cases e with
  | returned v =>
    obtain ⟨rfl, hb⟩ := he
    exact ⟨_, rfl, law_post hv hts hres (by rw [List.append_nil]; exact hsf ds hdl) hW hb⟩
  | panicked c => exact he.elim
  | outgrown => exact he.elim
theorem run_done {l : List As} : Run W l (saysTrue W (.bool true)) := fun w hw => ⟨rfl, hw.below⟩

/-- One parameter's reading. -/
theorem rd_arg {ts : List TypeId} {ds : List (DataW H)} (hsz : (DataW.weightsEach P ts ds).all (· ≤ reachBytes) = true) {j t : Nat} {d : DataW H} (ht : ts[j]? = some t) (hd : ds[j]? = some d) : Fits t d := fun n hn => by
  have := List.all_eq_true.1 hsz n (DataW.weights_mem_each ht hd n hn)
  simpa using this
theorem arg_slice {t e : TypeId} {b : Nat} {v pv : Value} (ht : P.underlying t = some (.slice e)) (hval : Value.okWide P W .any b t v) (hc : v.cells.toList = [pv]) : v = pv := by
  obtain ⟨a, n, c, rfl⟩ := okWide_slice ht hval
  simp [Value.cells] at hc
  exact hc
theorem arg_bool {b : Nat} {v : Value} {x : Bool} (hc : v.cells.toList = bV x) (hval : Value.okWide P W .any b 4 v) : v = .bool x := by
  have h1 : v.oneCell' = true := by
    unfold Value.okWide at hval
    rw [un4] at hval
    cases v <;> simp_all [Cell.okWide, Cell.ok, Value.oneCell', Value.cells, bV]
  cases v <;> simp_all [Value.cells, bV, Value.oneCell']
theorem arg_int {t : TypeId} {b : Nat} {v : Value} {n : Int} (hc : v.cells.toList = numV n) (hval : Value.okWide P W .any b t v) (ht : P.underlying t = some (.int .i64)) : v = IV n := by
  have h1 : v.oneCell' = true := by
    unfold Value.okWide at hval
    rw [ht] at hval
    cases v <;> simp_all [Cell.okWide, Cell.ok, Value.oneCell', Value.cells, numV]
  cases v <;> simp_all [Value.cells, numV, Value.oneCell']
end
end Go.Proofs.YtkonigmefmgepaaGreatDoor
