/- The shallow forms of the loaded functions, written by wip/gen.py out of the print of the loaded program: no idea stands in it. -/
import Derived.Test.YtkonigmefmgepaaDoorS0
import Derived.Test.YtkonigmefmgepaaDoorProg
namespace Go.Proofs.YtkonigmefmgepaaDoor
set_option maxRecDepth 100000
set_option linter.unusedVariables false
/-! ### evenhand / wrap.Div -/
def S97 (a0 a1 : Value) (ret : Value → C) (pn : Pn) : C :=
 nextS P (binN .eql 2 (Operand.tmp 6) (Operand.const (Value.int IntKind.i64 0)) a1 (Value.int IntKind.i64 0)) (fun x7_1 =>
 condS x7_1
 (ret (.tuple #[(Value.int IntKind.i64 0), (Value.bool false)]))
 (nextS P (binN .quo 2 (Operand.tmp 8) (Operand.tmp 9) a0 a1) (fun x10_2 =>
 ret (.tuple #[x10_2, (Value.bool true)])) pn)) pn
def mo97 : Nat → Mo := fun _ => .done
def lv97 : Nat → List Nat := fun _ => []
theorem ok97 : okC Tryd.f97.ntmps mo97 (Tryd.f97.body.getD .skip) = true := by kernel_rfl
theorem eq97 (a0 a1 : Value) (ret : Value → C) (pn : Pn) : D P mo97 lv97 pn (Tryd.f97.body.getD .skip) (finQ P Tryd.f97.results ret) (env0 [a0, a1]) = S97 a0 a1 ret pn := by kernel_rfl
theorem c97 {a0 a1 : Value} {R : Ending → World → Prop} {w : World} (h : S97 a0 a1 (fun v w => R (.returned v) w) (fun c w => R (.panicked c) w) w) : Calls P 97 #[a0, a1] w R :=
  callsD mixed mo97 lv97 Tryd.func97 rfl (Nat.le_of_ble_eq_true rfl) ok97 ((congrFun (eq97 a0 a1 _ _) w).mpr h)
theorem en97 (args : Array Value) (w : World) : (callFunc 97 args).run P w = .ok (.enter 97 args) w := by kernel_rfl

/-! ### evenhand / wrap.Mod -/
def S98 (a0 a1 : Value) (ret : Value → C) (pn : Pn) : C :=
 nextS P (binN .eql 2 (Operand.tmp 6) (Operand.const (Value.int IntKind.i64 0)) a1 (Value.int IntKind.i64 0)) (fun x7_1 =>
 condS x7_1
 (ret (.tuple #[(Value.int IntKind.i64 0), (Value.bool false)]))
 (nextS P (binN .rem 2 (Operand.tmp 8) (Operand.tmp 9) a0 a1) (fun x10_2 =>
 ret (.tuple #[x10_2, (Value.bool true)])) pn)) pn
def mo98 : Nat → Mo := fun _ => .done
def lv98 : Nat → List Nat := fun _ => []
theorem ok98 : okC Tryd.f98.ntmps mo98 (Tryd.f98.body.getD .skip) = true := by kernel_rfl
theorem eq98 (a0 a1 : Value) (ret : Value → C) (pn : Pn) : D P mo98 lv98 pn (Tryd.f98.body.getD .skip) (finQ P Tryd.f98.results ret) (env0 [a0, a1]) = S98 a0 a1 ret pn := by kernel_rfl
theorem c98 {a0 a1 : Value} {R : Ending → World → Prop} {w : World} (h : S98 a0 a1 (fun v w => R (.returned v) w) (fun c w => R (.panicked c) w) w) : Calls P 98 #[a0, a1] w R :=
  callsD mixed mo98 lv98 Tryd.func98 rfl (Nat.le_of_ble_eq_true rfl) ok98 ((congrFun (eq98 a0 a1 _ _) w).mpr h)
theorem en98 (args : Array Value) (w : World) : (callFunc 98 args).run P w = .ok (.enter 98 args) w := by kernel_rfl

/-! ### evenhand / wrap.Less -/
def S99 (a0 a1 : Value) (ret : Value → C) (pn : Pn) : C :=
 nextS P (binN .lss 2 (Operand.tmp 5) (Operand.tmp 6) a0 a1) (fun x7_1 =>
 callS P 104 #[x7_1] (fun x8_2 =>
 ret x8_2) pn) pn
def mo99 : Nat → Mo := fun _ => .done
def lv99 : Nat → List Nat := fun _ => []
theorem ok99 : okC Tryd.f99.ntmps mo99 (Tryd.f99.body.getD .skip) = true := by kernel_rfl
theorem eq99 (a0 a1 : Value) (ret : Value → C) (pn : Pn) : D P mo99 lv99 pn (Tryd.f99.body.getD .skip) (finQ P Tryd.f99.results ret) (env0 [a0, a1]) = S99 a0 a1 ret pn := by kernel_rfl
theorem c99 {a0 a1 : Value} {R : Ending → World → Prop} {w : World} (h : S99 a0 a1 (fun v w => R (.returned v) w) (fun c w => R (.panicked c) w) w) : Calls P 99 #[a0, a1] w R :=
  callsD mixed mo99 lv99 Tryd.func99 rfl (Nat.le_of_ble_eq_true rfl) ok99 ((congrFun (eq99 a0 a1 _ _) w).mpr h)
theorem en99 (args : Array Value) (w : World) : (callFunc 99 args).run P w = .ok (.enter 99 args) w := by kernel_rfl

/-! ### evenhand / wrap.Same -/
def S100 (a0 a1 : Value) (ret : Value → C) (pn : Pn) : C :=
 nextS P (binN .eql 2 (Operand.tmp 5) (Operand.tmp 6) a0 a1) (fun x7_1 =>
 callS P 104 #[x7_1] (fun x8_2 =>
 ret x8_2) pn) pn
def mo100 : Nat → Mo := fun _ => .done
def lv100 : Nat → List Nat := fun _ => []
theorem ok100 : okC Tryd.f100.ntmps mo100 (Tryd.f100.body.getD .skip) = true := by kernel_rfl
theorem eq100 (a0 a1 : Value) (ret : Value → C) (pn : Pn) : D P mo100 lv100 pn (Tryd.f100.body.getD .skip) (finQ P Tryd.f100.results ret) (env0 [a0, a1]) = S100 a0 a1 ret pn := by kernel_rfl
theorem c100 {a0 a1 : Value} {R : Ending → World → Prop} {w : World} (h : S100 a0 a1 (fun v w => R (.returned v) w) (fun c w => R (.panicked c) w) w) : Calls P 100 #[a0, a1] w R :=
  callsD mixed mo100 lv100 Tryd.func100 rfl (Nat.le_of_ble_eq_true rfl) ok100 ((congrFun (eq100 a0 a1 _ _) w).mpr h)
theorem en100 (args : Array Value) (w : World) : (callFunc 100 args).run P w = .ok (.enter 100 args) w := by kernel_rfl

/-! ### evenhand / wrap.And -/
def S101 (a0 a1 : Value) (ret : Value → C) (pn : Pn) : C :=
 nextS P (binN .and 2 (Operand.tmp 5) (Operand.tmp 6) a0 a1) (fun x7_1 =>
 ret x7_1) pn
def mo101 : Nat → Mo := fun _ => .done
def lv101 : Nat → List Nat := fun _ => []
theorem ok101 : okC Tryd.f101.ntmps mo101 (Tryd.f101.body.getD .skip) = true := by kernel_rfl
theorem eq101 (a0 a1 : Value) (ret : Value → C) (pn : Pn) : D P mo101 lv101 pn (Tryd.f101.body.getD .skip) (finQ P Tryd.f101.results ret) (env0 [a0, a1]) = S101 a0 a1 ret pn := by kernel_rfl
theorem c101 {a0 a1 : Value} {R : Ending → World → Prop} {w : World} (h : S101 a0 a1 (fun v w => R (.returned v) w) (fun c w => R (.panicked c) w) w) : Calls P 101 #[a0, a1] w R :=
  callsD mixed mo101 lv101 Tryd.func101 rfl (Nat.le_of_ble_eq_true rfl) ok101 ((congrFun (eq101 a0 a1 _ _) w).mpr h)
theorem en101 (args : Array Value) (w : World) : (callFunc 101 args).run P w = .ok (.enter 101 args) w := by kernel_rfl

/-! ### evenhand / wrap.Or -/
def S102 (a0 a1 : Value) (ret : Value → C) (pn : Pn) : C :=
 nextS P (binN .or 2 (Operand.tmp 5) (Operand.tmp 6) a0 a1) (fun x7_1 =>
 ret x7_1) pn
def mo102 : Nat → Mo := fun _ => .done
def lv102 : Nat → List Nat := fun _ => []
theorem ok102 : okC Tryd.f102.ntmps mo102 (Tryd.f102.body.getD .skip) = true := by kernel_rfl
theorem eq102 (a0 a1 : Value) (ret : Value → C) (pn : Pn) : D P mo102 lv102 pn (Tryd.f102.body.getD .skip) (finQ P Tryd.f102.results ret) (env0 [a0, a1]) = S102 a0 a1 ret pn := by kernel_rfl
theorem c102 {a0 a1 : Value} {R : Ending → World → Prop} {w : World} (h : S102 a0 a1 (fun v w => R (.returned v) w) (fun c w => R (.panicked c) w) w) : Calls P 102 #[a0, a1] w R :=
  callsD mixed mo102 lv102 Tryd.func102 rfl (Nat.le_of_ble_eq_true rfl) ok102 ((congrFun (eq102 a0 a1 _ _) w).mpr h)
theorem en102 (args : Array Value) (w : World) : (callFunc 102 args).run P w = .ok (.enter 102 args) w := by kernel_rfl

/-! ### evenhand / wrap.flag -/
def S104 (a0 : Value) (ret : Value → C) (pn : Pn) : C :=
 condS a0
 (ret (Value.int IntKind.i64 1))
 (ret (Value.int IntKind.i64 0))
def mo104 : Nat → Mo := fun _ => .done
def lv104 : Nat → List Nat := fun _ => []
theorem ok104 : okC Tryd.f104.ntmps mo104 (Tryd.f104.body.getD .skip) = true := by kernel_rfl
theorem eq104 (a0 : Value) (ret : Value → C) (pn : Pn) : D P mo104 lv104 pn (Tryd.f104.body.getD .skip) (finQ P Tryd.f104.results ret) (env0 [a0]) = S104 a0 ret pn := by kernel_rfl
theorem c104 {a0 : Value} {R : Ending → World → Prop} {w : World} (h : S104 a0 (fun v w => R (.returned v) w) (fun c w => R (.panicked c) w) w) : Calls P 104 #[a0] w R :=
  callsD mixed mo104 lv104 Tryd.func104 rfl (Nat.le_of_ble_eq_true rfl) ok104 ((congrFun (eq104 a0 _ _) w).mpr h)
theorem en104 (args : Array Value) (w : World) : (callFunc 104 args).run P w = .ok (.enter 104 args) w := by kernel_rfl

end Go.Proofs.YtkonigmefmgepaaDoor
