/- The shallow forms of the loaded functions, written by wip/gen.py out of the print of the loaded program: no idea stands in it. -/
import Derived.Test.YtkonigmefmgepaaGreatDoorS0
import Derived.Test.YtkonigmefmgepaaGreatDoorProg
namespace Go.Proofs.YtkonigmefmgepaaGreatDoor
set_option maxRecDepth 100000
set_option linter.unusedVariables false
/-! ### (*evenhand / evenhandref19.Manager).open -/
def S43 (a0 a1 a2 : Value) (ret : Value → C) (pn : Pn) : C :=
 nextS P (nilN a0) (fun x9_1 =>
 nextS P (V (Instr.fieldAt 50 x9_1 1)) (fun x10_2 =>
 nextS P (V (Instr.loadAt 25 x10_2)) (fun x11_3 =>
 nextS P (bltN .len #[25] 3 #[false] #[x11_3]) (fun x12_4 =>
 nextS P (binN .lss 3 (Operand.tmp 7) (Operand.tmp 12) a1 x12_4) (fun x13_5 =>
 grdS x13_5 true (fun K => K a2) fun x15_6 =>
 grdS x13_5 true (fun K => K a0) fun x16_7 =>
 grdS x13_5 true (fun K => nextS P (nilN x16_7) K pn) fun x17_8 =>
 grdS x13_5 true (fun K => nextS P (V (Instr.fieldAt 50 x17_8 1)) K pn) fun x18_9 =>
 grdS x13_5 true (fun K => nextS P (V (Instr.loadAt 25 x18_9)) K pn) fun x19_10 =>
 grdS x13_5 true (fun K => K a1) fun x20_11 =>
 grdS x13_5 true (fun K => nextS P (V (Instr.indexAt 25 x19_10 x20_11)) K pn) fun x21_12 =>
 grdS x13_5 true (fun K => nextS P (V (Instr.loadAt 56 x21_12)) K pn) fun x22_13 =>
 grdS x13_5 true (fun K => nextS P (bltN .len #[56] 3 #[false] #[x22_13]) K pn) fun x23_14 =>
 grdS x13_5 true (fun K => nextS P (binN .lss 3 (Operand.tmp 15) (Operand.tmp 23) x15_6 x23_14) K pn) fun x24_15 =>
 nextS P (pickN x13_5 x24_15 (Value.bool false)) (fun x25_16 =>
 grdS x25_16 true (fun K => K a0) fun x27_17 =>
 grdS x25_16 true (fun K => nextS P (nilN x27_17) K pn) fun x28_18 =>
 grdS x25_16 true (fun K => nextS P (V (Instr.fieldAt 50 x28_18 1)) K pn) fun x29_19 =>
 grdS x25_16 true (fun K => nextS P (V (Instr.loadAt 25 x29_19)) K pn) fun x30_20 =>
 grdS x25_16 true (fun K => K a1) fun x31_21 =>
 grdS x25_16 true (fun K => nextS P (V (Instr.indexAt 25 x30_20 x31_21)) K pn) fun x32_22 =>
 grdS x25_16 true (fun K => nextS P (V (Instr.loadAt 56 x32_22)) K pn) fun x33_23 =>
 grdS x25_16 true (fun K => K a2) fun x34_24 =>
 grdS x25_16 true (fun K => nextS P (V (Instr.indexAt 56 x33_23 x34_24)) K pn) fun x35_25 =>
 grdS x25_16 true (fun K => nextS P (V (Instr.loadAt 4 x35_25)) K pn) fun x36_26 =>
 nextS P (pickN x25_16 x36_26 (Value.bool false)) (fun x37_27 =>
 ret x37_27) pn) pn) pn) pn) pn) pn) pn
def mo43 : Nat → Mo := fun _ => .done
def lv43 : Nat → List Nat := fun _ => []
theorem ok43 : okC Tryz.f43.ntmps mo43 (Tryz.f43.body.getD .skip) = true := by kernel_rfl
theorem eq43 (a0 a1 a2 : Value) (ret : Value → C) (pn : Pn) : D P mo43 lv43 pn (Tryz.f43.body.getD .skip) (finQ P Tryz.f43.results ret) (env0 [a0, a1, a2]) = S43 a0 a1 a2 ret pn := by kernel_rfl
theorem c43 {a0 a1 a2 : Value} {R : Ending → World → Prop} {w : World} (h : S43 a0 a1 a2 (fun v w => R (.returned v) w) (fun c w => R (.panicked c) w) w) : Calls P 43 #[a0, a1, a2] w R :=
  callsD mixed mo43 lv43 Tryz.func43 rfl (Nat.le_of_ble_eq_true rfl) ok43 ((congrFun (eq43 a0 a1 a2 _ _) w).mpr h)
theorem en43 (args : Array Value) (w : World) : (callFunc 43 args).run P w = .ok (.enter 43 args) w := by kernel_rfl

/-! ### evenhand / evenhandref17.For -/
def S44_k2 (nx1 : List Value → C) (ret : Value → C) (pn : Pn) (y1 y2 y3 y7 y8 y9 y10 : Value) : C :=
 nextS P (V (Instr.loadAt 75 y10)) (fun x42_26 =>
 nextS P (V (Instr.buildSlice 41 1 #[(0, x42_26)])) (fun x43_27 =>
 nextS P (bltN .append #[41, 41] 41 #[false, false] #[y7, x43_27]) (fun x44_28 =>
 nextS P (binN .add 3 (Operand.tmp 20) (Operand.const (Value.int IntKind.i64 1)) y9 (Value.int IntKind.i64 1)) (fun x21_29 =>
 nx1 [y1, y2, y3, x44_28, y8, x21_29]) pn) pn) pn) pn
def S44_l1 (nx1 : List Value → C) (ret : Value → C) (pn : Pn) (e : Env) : C :=
 nextS P (V (Instr.fieldAt 74 (e 3) 4)) (fun x16_5 =>
 nextS P (V (Instr.loadAt 41 x16_5)) (fun x17_6 =>
 nextS P (bltN .len #[41] 3 #[false] #[x17_6]) (fun x18_7 =>
 nextS P (binN .lss 3 (Operand.tmp 15) (Operand.tmp 18) (e 9) x18_7) (fun x19_8 =>
 condS x19_8
 (nextS P (V (Instr.fieldAt 74 (e 3) 4)) (fun x22_9 =>
 nextS P (V (Instr.loadAt 41 x22_9)) (fun x23_10 =>
 nextS P (V (Instr.indexAt 41 x23_10 (e 9))) (fun x25_11 =>
 nextS P (V (Instr.loadAt 75 x25_11)) (fun x26_12 =>
 nextS P (V (Instr.alloc 75 true (.tuple #[]))) (fun x10_13 =>
 nextS P (U (Instr.storeAt 75 x10_13 x26_12)) (fun _ =>
 grdS (e 8) true (fun K => nextS P (V (Instr.fieldAt 75 x10_13 0)) K pn) fun x29_15 =>
 grdS (e 8) true (fun K => nextS P (V (Instr.loadAt 3 x29_15)) K pn) fun x30_16 =>
 grdS (e 8) true (fun K => nextS P (binN .eql 3 (Operand.tmp 30) (Operand.const (Value.int IntKind.i64 2)) x30_16 (Value.int IntKind.i64 2)) K pn) fun x31_17 =>
 nextS P (pickN (e 8) x31_17 (Value.bool false)) (fun x32_18 =>
 grdS x32_18 true (fun K => nextS P (V (Instr.fieldAt 75 x10_13 1)) K pn) fun x34_19 =>
 grdS x32_18 true (fun K => nextS P (V (Instr.loadAt 3 x34_19)) K pn) fun x35_20 =>
 grdS x32_18 true (fun K => K (e 1)) fun x36_21 =>
 grdS x32_18 true (fun K => nextS P (binN .eql 3 (Operand.tmp 35) (Operand.tmp 36) x35_20 x36_21) K pn) fun x37_22 =>
 nextS P (pickN x32_18 x37_22 (Value.bool false)) (fun x38_23 =>
 condS x38_23
 (nextS P (V (Instr.build 75 #[(0, (Value.int IntKind.i64 1)), (2, (e 2))])) (fun x40_24 =>
 nextS P (U (Instr.storeAt 75 x10_13 x40_24)) (fun _ =>
 S44_k2 nx1 ret pn (e 1) (e 2) (e 3) (e 7) (e 8) (e 9) x10_13) pn) pn)
 (S44_k2 nx1 ret pn (e 1) (e 2) (e 3) (e 7) (e 8) (e 9) x10_13)) pn) pn) pn) pn) pn) pn) pn) pn)
 (callS P 45 #[(e 7)] (fun x46_30 =>
 ret x46_30) pn)) pn) pn) pn) pn
def S44 (a0 a1 a2 : Value) (ret : Value → C) (pn : Pn) : C :=
 nextS P (V (Instr.box 74 a0)) (fun x3_1 =>
 nextS P (V (Instr.buildSlice 41 0 #[])) (fun x11_2 =>
 nextS P (V (Instr.loadAt 74 x3_1)) (fun x12_3 =>
 callS P 57 #[x12_3, a1] (fun x14_4 =>
 LoopS [a1, a2, x3_1, x11_2, x14_4, (Value.int IntKind.i64 0)] [1, 2, 3, 7, 8, 9] fun nx1 e => S44_l1 nx1 ret pn e) pn) pn) pn) pn
def mo44 : Nat → Mo := fun _ => .done
def lv44 : Nat → List Nat
  | 4 => [1, 2, 3, 7, 8, 9]
  | _ => []
theorem ok44 : okC Tryz.f44.ntmps mo44 (Tryz.f44.body.getD .skip) = true := by kernel_rfl
theorem eq44 (a0 a1 a2 : Value) (ret : Value → C) (pn : Pn) : D P mo44 lv44 pn (Tryz.f44.body.getD .skip) (finQ P Tryz.f44.results ret) (env0 [a0, a1, a2]) = S44 a0 a1 a2 ret pn := by kernel_rfl
theorem c44 {a0 a1 a2 : Value} {R : Ending → World → Prop} {w : World} (h : S44 a0 a1 a2 (fun v w => R (.returned v) w) (fun c w => R (.panicked c) w) w) : Calls P 44 #[a0, a1, a2] w R :=
  callsD mixed mo44 lv44 Tryz.func44 rfl (Nat.le_of_ble_eq_true rfl) ok44 ((congrFun (eq44 a0 a1 a2 _ _) w).mpr h)
theorem en44 (args : Array Value) (w : World) : (callFunc 44 args).run P w = .ok (.enter 44 args) w := by kernel_rfl

/-! ### evenhand / evenhandref16.Fold -/
def S45_l1 (nx1 : List Value → C) (ret : Value → C) (pn : Pn) (e : Env) : C :=
 condS (e 3)
 (callS P 58 #[(e 0)] (fun x7_1 =>
 nextS P (V (Instr.extract x7_1 0)) (fun x8_2 =>
 nextS P (V (Instr.extract x7_1 1)) (fun x9_3 =>
 nx1 [x8_2, x9_3]) pn) pn) pn)
 (ret (e 0))
def S45 (a0 : Value) (ret : Value → C) (pn : Pn) : C :=
 LoopS [a0, (Value.bool true)] [0, 3] fun nx1 e => S45_l1 nx1 ret pn e
def mo45 : Nat → Mo := fun _ => .done
def lv45 : Nat → List Nat
  | 2 => [0, 3]
  | _ => []
theorem ok45 : okC Tryz.f45.ntmps mo45 (Tryz.f45.body.getD .skip) = true := by kernel_rfl
theorem eq45 (a0 : Value) (ret : Value → C) (pn : Pn) : D P mo45 lv45 pn (Tryz.f45.body.getD .skip) (finQ P Tryz.f45.results ret) (env0 [a0]) = S45 a0 ret pn := by kernel_rfl
theorem c45 {a0 : Value} {R : Ending → World → Prop} {w : World} (h : S45 a0 (fun v w => R (.returned v) w) (fun c w => R (.panicked c) w) w) : Calls P 45 #[a0] w R :=
  callsD mixed mo45 lv45 Tryz.func45 rfl (Nat.le_of_ble_eq_true rfl) ok45 ((congrFun (eq45 a0 _ _) w).mpr h)
theorem en45 (args : Array Value) (w : World) : (callFunc 45 args).run P w = .ok (.enter 45 args) w := by kernel_rfl

/-! ### (*strings.Builder).copyCheck -/
def S46 (a0 : Value) (ret : Value → C) (pn : Pn) : C :=
 nextS P (nilN a0) (fun x3_1 =>
 nextS P (V (Instr.fieldAt 98 x3_1 0)) (fun x4_2 =>
 nextS P (V (Instr.loadAt 95 x4_2)) (fun x5_3 =>
 nextS P (binN .eql 95 (Operand.tmp 5) (Operand.const (Value.pointer none)) x5_3 (Value.pointer none)) (fun x6_4 =>
 condS x6_4
 (nextS P (V (convert 95 143 a0)) (fun x9_5 =>
 callS P 59 #[x9_5] (fun x10_6 =>
 nextS P (V (convert 143 95 x10_6)) (fun x11_7 =>
 nextS P (nilN a0) (fun x12_8 =>
 nextS P (V (Instr.fieldAt 98 x12_8 0)) (fun x13_9 =>
 nextS P (U (Instr.storeAt 95 x13_9 x11_7)) (fun _ =>
 ret (.tuple #[])) pn) pn) pn) pn) pn) pn)
 (nextS P (nilN a0) (fun x15_11 =>
 nextS P (V (Instr.fieldAt 98 x15_11 0)) (fun x16_12 =>
 nextS P (V (Instr.loadAt 95 x16_12)) (fun x17_13 =>
 nextS P (binN .neq 95 (Operand.tmp 17) (Operand.tmp 18) x17_13 a0) (fun x19_14 =>
 condS x19_14
 (fun _ => False)
 (ret (.tuple #[]))) pn) pn) pn) pn)) pn) pn) pn) pn
def mo46 : Nat → Mo := fun _ => .done
def lv46 : Nat → List Nat := fun _ => []
theorem ok46 : okC Tryz.f46.ntmps mo46 (Tryz.f46.body.getD .skip) = true := by kernel_rfl
theorem eq46 (a0 : Value) (ret : Value → C) (pn : Pn) : D P mo46 lv46 pn (Tryz.f46.body.getD .skip) (finQ P Tryz.f46.results ret) (env0 [a0]) = S46 a0 ret pn := by kernel_rfl
theorem c46 {a0 : Value} {R : Ending → World → Prop} {w : World} (h : S46 a0 (fun v w => R (.returned v) w) (fun c w => R (.panicked c) w) w) : Calls P 46 #[a0] w R :=
  callsD mixed mo46 lv46 Tryz.func46 rfl (Nat.le_of_ble_eq_true rfl) ok46 ((congrFun (eq46 a0 _ _) w).mpr h)
theorem en46 (args : Array Value) (w : World) : (callFunc 46 args).run P w = .ok (.enter 46 args) w := by kernel_rfl

/-! ### evenhand / code.Name -/
def S48 (a0 : Value) (ret : Value → C) (pn : Pn) : C :=
 callS P 49 #[a0] (fun x4_1 =>
 nextS P (V (Instr.field 128 x4_1 0)) (fun x5_2 =>
 ret x5_2) pn) pn
def mo48 : Nat → Mo := fun _ => .done
def lv48 : Nat → List Nat := fun _ => []
theorem ok48 : okC Tryz.f48.ntmps mo48 (Tryz.f48.body.getD .skip) = true := by kernel_rfl
theorem eq48 (a0 : Value) (ret : Value → C) (pn : Pn) : D P mo48 lv48 pn (Tryz.f48.body.getD .skip) (finQ P Tryz.f48.results ret) (env0 [a0]) = S48 a0 ret pn := by kernel_rfl
theorem c48 {a0 : Value} {R : Ending → World → Prop} {w : World} (h : S48 a0 (fun v w => R (.returned v) w) (fun c w => R (.panicked c) w) w) : Calls P 48 #[a0] w R :=
  callsD mixed mo48 lv48 Tryz.func48 rfl (Nat.le_of_ble_eq_true rfl) ok48 ((congrFun (eq48 a0 _ _) w).mpr h)
theorem en48 (args : Array Value) (w : World) : (callFunc 48 args).run P w = .ok (.enter 48 args) w := by kernel_rfl

/-! ### evenhand / code.of -/
def S49_k1 (ret : Value → C) (pn : Pn) (y0 y2 : Value) : C :=
 nextS P (V (Instr.indexAt 145 (Value.pointer (some ⟨0, 0, none⟩)) y0)) (fun x7_4 =>
 nextS P (V (Instr.loadAt 128 x7_4)) (fun x8_5 =>
 nextS P (U (Instr.storeAt 128 y2 x8_5)) (fun _ =>
 cellS P 128 y2 ret) pn) pn) pn
def S49 (a0 : Value) (ret : Value → C) (pn : Pn) : C :=
 nextS P (V (Instr.alloc 128 true (.tuple #[]))) (fun x2_1 =>
 callS P 61 #[a0] (fun x4_2 =>
 nextS P (V (Op.unary .not x4_2)) (fun x5_3 =>
 condS x5_3
 (S49_k1 ret pn (Value.int IntKind.i64 0) x2_1)
 (S49_k1 ret pn a0 x2_1)) pn) pn) pn
def mo49 : Nat → Mo := fun _ => .done
def lv49 : Nat → List Nat := fun _ => []
theorem ok49 : okC Tryz.f49.ntmps mo49 (Tryz.f49.body.getD .skip) = true := by kernel_rfl
theorem eq49 (a0 : Value) (ret : Value → C) (pn : Pn) : D P mo49 lv49 pn (Tryz.f49.body.getD .skip) (finQ P Tryz.f49.results ret) (env0 [a0]) = S49 a0 ret pn := by kernel_rfl
theorem c49 {a0 : Value} {R : Ending → World → Prop} {w : World} (h : S49 a0 (fun v w => R (.returned v) w) (fun c w => R (.panicked c) w) w) : Calls P 49 #[a0] w R :=
  callsD mixed mo49 lv49 Tryz.func49 rfl (Nat.le_of_ble_eq_true rfl) ok49 ((congrFun (eq49 a0 _ _) w).mpr h)
theorem en49 (args : Array Value) (w : World) : (callFunc 49 args).run P w = .ok (.enter 49 args) w := by kernel_rfl

/-! ### (*evenhand / profile.Profile).Value -/
def S52 (a0 a1 a2 : Value) (ret : Value → C) (pn : Pn) : C :=
 callS P 37 #[a0, a1] (fun x11_1 =>
 nextS P (binN .eql 117 (Operand.tmp 12) (Operand.const (Value.pointer none)) x11_1 (Value.pointer none)) (fun x13_2 =>
 grdS x13_2 false (fun K => K a2) fun x15_3 =>
 grdS x13_2 false (fun K => nextS P (binN .lss 3 (Operand.tmp 15) (Operand.const (Value.int IntKind.i64 0)) x15_3 (Value.int IntKind.i64 0)) K pn) fun x16_4 =>
 nextS P (pickN x13_2 (Value.bool true) x16_4) (fun x17_5 =>
 grdS x17_5 false (fun K => K a2) fun x19_6 =>
 grdS x17_5 false (fun K => K x11_1) fun x20_7 =>
 grdS x17_5 false (fun K => nextS P (nilN x20_7) K pn) fun x21_8 =>
 grdS x17_5 false (fun K => nextS P (V (Instr.fieldAt 115 x21_8 0)) K pn) fun x22_9 =>
 grdS x17_5 false (fun K => nextS P (V (Instr.loadAt 3 x22_9)) K pn) fun x23_10 =>
 grdS x17_5 false (fun K => nextS P (binN .geq 3 (Operand.tmp 19) (Operand.tmp 23) x19_6 x23_10) K pn) fun x24_11 =>
 nextS P (pickN x17_5 (Value.bool true) x24_11) (fun x25_12 =>
 condS x25_12
 (ret (.tuple #[(Value.int IntKind.i64 0), (Value.int IntKind.i64 0)]))
 (DrawS fun S =>
 pureS P (nilN x11_1) fun x28_13 =>
 pureS P (V (Instr.fieldAt 115 x28_13 2)) fun x29_14 =>
 pureS P (V (Instr.indexAt 113 x29_14 a2)) fun x30_15 =>
 pureS P (V (Instr.fieldAt 112 x30_15 0)) fun x31_16 =>
 takeS S P (V (Instr.loadAt 2 x31_16)) fun x32_17 =>
 pureS P (nilN x11_1) fun x35_18 =>
 pureS P (V (Instr.fieldAt 115 x35_18 2)) fun x36_19 =>
 pureS P (V (Instr.indexAt 113 x36_19 a2)) fun x37_20 =>
 pureS P (V (Instr.fieldAt 112 x37_20 1)) fun x38_21 =>
 takeS S P (V (Instr.loadAt 3 x38_21)) fun x39_22 =>
 ret (.tuple #[x32_17, x39_22]))) pn) pn) pn) pn
def mo52 : Nat → Mo
  | 4 => (Mo.take 0 (Mo.take 1 (Mo.take 2 (Mo.take 3 (Mo.take 4 (Mo.take 5 (Mo.take 6 (Mo.take 7 (Mo.take 8 (Mo.take 9 (Mo.take 10 (Mo.take 11 (Mo.take 12 (Mo.take 13 (Mo.take 14 (Mo.take 15 Mo.done))))))))))))))))
  | _ => .done
def lv52 : Nat → List Nat := fun _ => []
theorem ok52 : okC Tryz.f52.ntmps mo52 (Tryz.f52.body.getD .skip) = true := by kernel_rfl
theorem eq52 (a0 a1 a2 : Value) (ret : Value → C) (pn : Pn) : D P mo52 lv52 pn (Tryz.f52.body.getD .skip) (finQ P Tryz.f52.results ret) (env0 [a0, a1, a2]) = S52 a0 a1 a2 ret pn := by kernel_rfl
theorem c52 {a0 a1 a2 : Value} {R : Ending → World → Prop} {w : World} (h : S52 a0 a1 a2 (fun v w => R (.returned v) w) (fun c w => R (.panicked c) w) w) : Calls P 52 #[a0, a1, a2] w R :=
  callsD mixed mo52 lv52 Tryz.func52 rfl (Nat.le_of_ble_eq_true rfl) ok52 ((congrFun (eq52 a0 a1 a2 _ _) w).mpr h)
theorem en52 (args : Array Value) (w : World) : (callFunc 52 args).run P w = .ok (.enter 52 args) w := by kernel_rfl

/-! ### evenhand / spec.For -/
def S53_k2 (nx1 : List Value → C) (ret : Value → C) (pn : Pn) (y1 y2 y7 y19 y20 y21 : Value) : C :=
 nextS P (binN .add 3 (Operand.tmp 21) (Operand.const (Value.int IntKind.i64 1)) y21 (Value.int IntKind.i64 1)) (fun x40_27 =>
 nx1 [y1, y2, y7, y19, y20, x40_27]) pn
def S53_l1 (nx1 : List Value → C) (ret : Value → C) (pn : Pn) (e : Env) : C :=
 nextS P (binN .lss 3 (Operand.tmp 21) (Operand.tmp 20) (e 21) (e 20)) (fun x22_11 =>
 condS x22_11
 (nextS P (V (Instr.indexAt 36 (e 19) (e 21))) (fun x24_12 =>
 nextS P (V (Instr.loadAt 69 x24_12)) (fun x25_13 =>
 nextS P (V (Instr.alloc 69 true (.tuple #[]))) (fun x9_14 =>
 nextS P (U (Instr.storeAt 69 x9_14 x25_13)) (fun _ =>
 nextS P (V (Instr.fieldAt 69 x9_14 0)) (fun x26_16 =>
 nextS P (V (Instr.loadAt 3 x26_16)) (fun x27_17 =>
 nextS P (binN .eql 3 (Operand.tmp 27) (Operand.const (Value.int IntKind.i64 2)) x27_17 (Value.int IntKind.i64 2)) (fun x28_18 =>
 grdS x28_18 true (fun K => nextS P (V (Instr.fieldAt 69 x9_14 1)) K pn) fun x30_19 =>
 grdS x28_18 true (fun K => nextS P (V (Instr.loadAt 3 x30_19)) K pn) fun x31_20 =>
 grdS x28_18 true (fun K => K (e 1)) fun x32_21 =>
 grdS x28_18 true (fun K => nextS P (binN .eql 3 (Operand.tmp 31) (Operand.tmp 32) x31_20 x32_21) K pn) fun x33_22 =>
 nextS P (pickN x28_18 x33_22 (Value.bool false)) (fun x34_23 =>
 condS x34_23
 (nextS P (V (Instr.build 69 #[(0, (Value.int IntKind.i64 1)), (2, (e 2))])) (fun x38_24 =>
 nextS P (V (Instr.indexAt 36 (e 7) (e 21))) (fun x39_25 =>
 nextS P (U (Instr.storeAt 69 x39_25 x38_24)) (fun _ =>
 S53_k2 nx1 ret pn (e 1) (e 2) (e 7) (e 19) (e 20) (e 21)) pn) pn) pn)
 (S53_k2 nx1 ret pn (e 1) (e 2) (e 7) (e 19) (e 20) (e 21))) pn) pn) pn) pn) pn) pn) pn) pn)
 (callS P 65 #[(e 7)] (fun x42_28 =>
 ret x42_28) pn)) pn
def S53 (a0 a1 a2 : Value) (ret : Value → C) (pn : Pn) : C :=
 nextS P (V (Instr.box 59 a0)) (fun x3_1 =>
 nextS P (V (Instr.loadAt 59 x3_1)) (fun x10_2 =>
 callS P 64 #[x10_2, a1] (fun x12_3 =>
 nextS P (V (Op.unary .not x12_3)) (fun x13_4 =>
 condS x13_4
 (nextS P (V (Instr.loadAt 59 x3_1)) (fun x14_5 =>
 callS P 54 #[x14_5] (fun x15_6 =>
 ret x15_6) pn) pn)
 (nextS P (V (Instr.fieldAt 59 x3_1 4)) (fun x16_7 =>
 nextS P (V (Instr.loadAt 36 x16_7)) (fun x17_8 =>
 callS P 16 #[x17_8] (fun x18_9 =>
 nextS P (bltN .len #[36] 3 #[false] #[x18_9]) (fun x20_10 =>
 LoopS [a1, a2, x18_9, x18_9, x20_10, (Value.int IntKind.i64 0)] [1, 2, 7, 19, 20, 21] fun nx1 e => S53_l1 nx1 ret pn e) pn) pn) pn) pn)) pn) pn) pn) pn
def mo53 : Nat → Mo := fun _ => .done
def lv53 : Nat → List Nat
  | 5 => [1, 2, 7, 19, 20, 21]
  | _ => []
theorem ok53 : okC Tryz.f53.ntmps mo53 (Tryz.f53.body.getD .skip) = true := by kernel_rfl
theorem eq53 (a0 a1 a2 : Value) (ret : Value → C) (pn : Pn) : D P mo53 lv53 pn (Tryz.f53.body.getD .skip) (finQ P Tryz.f53.results ret) (env0 [a0, a1, a2]) = S53 a0 a1 a2 ret pn := by kernel_rfl
theorem c53 {a0 a1 a2 : Value} {R : Ending → World → Prop} {w : World} (h : S53 a0 a1 a2 (fun v w => R (.returned v) w) (fun c w => R (.panicked c) w) w) : Calls P 53 #[a0, a1, a2] w R :=
  callsD mixed mo53 lv53 Tryz.func53 rfl (Nat.le_of_ble_eq_true rfl) ok53 ((congrFun (eq53 a0 a1 a2 _ _) w).mpr h)
theorem en53 (args : Array Value) (w : World) : (callFunc 53 args).run P w = .ok (.enter 53 args) w := by kernel_rfl

/-! ### evenhand / spec.Plain -/
def S54 (a0 : Value) (ret : Value → C) (pn : Pn) : C :=
 nextS P (V (Instr.box 59 a0)) (fun x1_1 =>
 nextS P (V (Instr.fieldAt 59 x1_1 4)) (fun x3_2 =>
 nextS P (V (Instr.loadAt 36 x3_2)) (fun x4_3 =>
 callS P 65 #[x4_3] (fun x5_4 =>
 ret x5_4) pn) pn) pn) pn
def mo54 : Nat → Mo := fun _ => .done
def lv54 : Nat → List Nat := fun _ => []
theorem ok54 : okC Tryz.f54.ntmps mo54 (Tryz.f54.body.getD .skip) = true := by kernel_rfl
theorem eq54 (a0 : Value) (ret : Value → C) (pn : Pn) : D P mo54 lv54 pn (Tryz.f54.body.getD .skip) (finQ P Tryz.f54.results ret) (env0 [a0]) = S54 a0 ret pn := by kernel_rfl
theorem c54 {a0 : Value} {R : Ending → World → Prop} {w : World} (h : S54 a0 (fun v w => R (.returned v) w) (fun c w => R (.panicked c) w) w) : Calls P 54 #[a0] w R :=
  callsD mixed mo54 lv54 Tryz.func54 rfl (Nat.le_of_ble_eq_true rfl) ok54 ((congrFun (eq54 a0 _ _) w).mpr h)
theorem en54 (args : Array Value) (w : World) : (callFunc 54 args).run P w = .ok (.enter 54 args) w := by kernel_rfl

/-! ### (*evenhand / cache.Cache).Len -/
def S55 (a0 : Value) (ret : Value → C) (pn : Pn) : C :=
 nextS P (nilN a0) (fun x4_1 =>
 nextS P (V (Instr.fieldAt 107 x4_1 1)) (fun x5_2 =>
 nextS P (V (Instr.loadAt 71 x5_2)) (fun x6_3 =>
 nextS P (bltN .len #[71] 3 #[false] #[x6_3]) (fun x7_4 =>
 ret x7_4) pn) pn) pn) pn
def mo55 : Nat → Mo := fun _ => .done
def lv55 : Nat → List Nat := fun _ => []
theorem ok55 : okC Tryz.f55.ntmps mo55 (Tryz.f55.body.getD .skip) = true := by kernel_rfl
theorem eq55 (a0 : Value) (ret : Value → C) (pn : Pn) : D P mo55 lv55 pn (Tryz.f55.body.getD .skip) (finQ P Tryz.f55.results ret) (env0 [a0]) = S55 a0 ret pn := by kernel_rfl
theorem c55 {a0 : Value} {R : Ending → World → Prop} {w : World} (h : S55 a0 (fun v w => R (.returned v) w) (fun c w => R (.panicked c) w) w) : Calls P 55 #[a0] w R :=
  callsD mixed mo55 lv55 Tryz.func55 rfl (Nat.le_of_ble_eq_true rfl) ok55 ((congrFun (eq55 a0 _ _) w).mpr h)
theorem en55 (args : Array Value) (w : World) : (callFunc 55 args).run P w = .ok (.enter 55 args) w := by kernel_rfl

/-! ### slices.IndexFunc[[]int,int] -/
def S56_l1 (nx1 : List Value → C) (ret : Value → C) (pn : Pn) (e : Env) : C :=
 nextS P (binN .lss 3 (Operand.tmp 8) (Operand.tmp 7) (e 8) (e 7)) (fun x9_2 =>
 condS x9_2
 (nextS P (V (Instr.indexAt 71 (e 0) (e 8))) (fun x14_3 =>
 nextS P (V (Instr.loadAt 3 x14_3)) (fun x15_4 =>
 nextS P (callVN (e 1) #[x15_4]) (fun x16_5 =>
 condS x16_5
 (ret (e 8))
 (nextS P (binN .add 3 (Operand.tmp 8) (Operand.const (Value.int IntKind.i64 1)) (e 8) (Value.int IntKind.i64 1)) (fun x18_6 =>
 nx1 [(e 0), (e 1), (e 7), x18_6]) pn)) pn) pn) pn)
 (ret (Value.int IntKind.i64 (-1)))) pn
def S56 (a0 a1 : Value) (ret : Value → C) (pn : Pn) : C :=
 nextS P (bltN .len #[71] 3 #[false] #[a0]) (fun x7_1 =>
 LoopS [a0, a1, x7_1, (Value.int IntKind.i64 0)] [0, 1, 7, 8] fun nx1 e => S56_l1 nx1 ret pn e) pn
def mo56 : Nat → Mo := fun _ => .done
def lv56 : Nat → List Nat
  | 2 => [0, 1, 7, 8]
  | _ => []
theorem ok56 : okC Tryz.f56.ntmps mo56 (Tryz.f56.body.getD .skip) = true := by kernel_rfl
theorem eq56 (a0 a1 : Value) (ret : Value → C) (pn : Pn) : D P mo56 lv56 pn (Tryz.f56.body.getD .skip) (finQ P Tryz.f56.results ret) (env0 [a0, a1]) = S56 a0 a1 ret pn := by kernel_rfl
theorem c56 {a0 a1 : Value} {R : Ending → World → Prop} {w : World} (h : S56 a0 a1 (fun v w => R (.returned v) w) (fun c w => R (.panicked c) w) w) : Calls P 56 #[a0, a1] w R :=
  callsD mixed mo56 lv56 Tryz.func56 rfl (Nat.le_of_ble_eq_true rfl) ok56 ((congrFun (eq56 a0 a1 _ _) w).mpr h)
theorem en56 (args : Array Value) (w : World) : (callFunc 56 args).run P w = .ok (.enter 56 args) w := by kernel_rfl

/-! ### evenhand / evenhandref17.Fixed -/
def S57_l1 (nx1 : List Value → C) (ret : Value → C) (pn : Pn) (e : Env) : C :=
 nextS P (V (Instr.fieldAt 74 (e 2) 4)) (fun x15_8 =>
 nextS P (V (Instr.loadAt 41 x15_8)) (fun x16_9 =>
 nextS P (bltN .len #[41] 3 #[false] #[x16_9]) (fun x17_10 =>
 nextS P (binN .lss 3 (Operand.tmp 14) (Operand.tmp 17) (e 5) x17_10) (fun x18_11 =>
 condS x18_11
 (nextS P (V (Instr.fieldAt 74 (e 2) 4)) (fun x21_12 =>
 nextS P (V (Instr.loadAt 41 x21_12)) (fun x22_13 =>
 nextS P (V (Instr.indexAt 41 x22_13 (e 5))) (fun x24_14 =>
 nextS P (V (Instr.fieldAt 75 x24_14 0)) (fun x25_15 =>
 nextS P (V (Instr.loadAt 3 x25_15)) (fun x26_16 =>
 nextS P (binN .eql 3 (Operand.tmp 26) (Operand.const (Value.int IntKind.i64 3)) x26_16 (Value.int IntKind.i64 3)) (fun x27_17 =>
 grdS x27_17 false (fun K => nextS P (V (Instr.fieldAt 74 (e 2) 4)) K pn) fun x29_18 =>
 grdS x27_17 false (fun K => nextS P (V (Instr.loadAt 41 x29_18)) K pn) fun x30_19 =>
 grdS x27_17 false (fun K => K (e 5)) fun x31_20 =>
 grdS x27_17 false (fun K => nextS P (V (Instr.indexAt 41 x30_19 x31_20)) K pn) fun x32_21 =>
 grdS x27_17 false (fun K => nextS P (V (Instr.fieldAt 75 x32_21 0)) K pn) fun x33_22 =>
 grdS x27_17 false (fun K => nextS P (V (Instr.loadAt 3 x33_22)) K pn) fun x34_23 =>
 grdS x27_17 false (fun K => nextS P (binN .eql 3 (Operand.tmp 34) (Operand.const (Value.int IntKind.i64 21)) x34_23 (Value.int IntKind.i64 21)) K pn) fun x35_24 =>
 nextS P (pickN x27_17 (Value.bool true) x35_24) (fun x36_25 =>
 grdS x36_25 true (fun K => nextS P (V (Instr.fieldAt 74 (e 2) 4)) K pn) fun x38_26 =>
 grdS x36_25 true (fun K => nextS P (V (Instr.loadAt 41 x38_26)) K pn) fun x39_27 =>
 grdS x36_25 true (fun K => K (e 5)) fun x40_28 =>
 grdS x36_25 true (fun K => nextS P (V (Instr.indexAt 41 x39_27 x40_28)) K pn) fun x41_29 =>
 grdS x36_25 true (fun K => nextS P (V (Instr.fieldAt 75 x41_29 1)) K pn) fun x42_30 =>
 grdS x36_25 true (fun K => nextS P (V (Instr.loadAt 3 x42_30)) K pn) fun x43_31 =>
 grdS x36_25 true (fun K => K (e 1)) fun x44_32 =>
 grdS x36_25 true (fun K => nextS P (binN .eql 3 (Operand.tmp 43) (Operand.tmp 44) x43_31 x44_32) K pn) fun x45_33 =>
 nextS P (pickN x36_25 x45_33 (Value.bool false)) (fun x46_34 =>
 condS x46_34
 (ret (Value.bool false))
 (nextS P (binN .add 3 (Operand.tmp 19) (Operand.const (Value.int IntKind.i64 1)) (e 5) (Value.int IntKind.i64 1)) (fun x20_35 =>
 nx1 [(e 1), (e 2), x20_35]) pn)) pn) pn) pn) pn) pn) pn) pn) pn)
 (ret (Value.bool true))) pn) pn) pn) pn
def S57 (a0 a1 : Value) (ret : Value → C) (pn : Pn) : C :=
 nextS P (V (Instr.box 74 a0)) (fun x2_1 =>
 nextS P (binN .lss 3 (Operand.tmp 6) (Operand.const (Value.int IntKind.i64 0)) a1 (Value.int IntKind.i64 0)) (fun x7_2 =>
 grdS x7_2 false (fun K => K a1) fun x9_3 =>
 grdS x7_2 false (fun K => nextS P (V (Instr.fieldAt 74 x2_1 1)) K pn) fun x10_4 =>
 grdS x7_2 false (fun K => nextS P (V (Instr.loadAt 3 x10_4)) K pn) fun x11_5 =>
 grdS x7_2 false (fun K => nextS P (binN .geq 3 (Operand.tmp 9) (Operand.tmp 11) x9_3 x11_5) K pn) fun x12_6 =>
 nextS P (pickN x7_2 (Value.bool true) x12_6) (fun x13_7 =>
 condS x13_7
 (ret (Value.bool false))
 (LoopS [a1, x2_1, (Value.int IntKind.i64 0)] [1, 2, 5] fun nx1 e => S57_l1 nx1 ret pn e)) pn) pn) pn
def mo57 : Nat → Mo := fun _ => .done
def lv57 : Nat → List Nat
  | 4 => [1, 2, 5]
  | _ => []
theorem ok57 : okC Tryz.f57.ntmps mo57 (Tryz.f57.body.getD .skip) = true := by kernel_rfl
theorem eq57 (a0 a1 : Value) (ret : Value → C) (pn : Pn) : D P mo57 lv57 pn (Tryz.f57.body.getD .skip) (finQ P Tryz.f57.results ret) (env0 [a0, a1]) = S57 a0 a1 ret pn := by kernel_rfl
theorem c57 {a0 a1 : Value} {R : Ending → World → Prop} {w : World} (h : S57 a0 a1 (fun v w => R (.returned v) w) (fun c w => R (.panicked c) w) w) : Calls P 57 #[a0, a1] w R :=
  callsD mixed mo57 lv57 Tryz.func57 rfl (Nat.le_of_ble_eq_true rfl) ok57 ((congrFun (eq57 a0 a1 _ _) w).mpr h)
theorem en57 (args : Array Value) (w : World) : (callFunc 57 args).run P w = .ok (.enter 57 args) w := by kernel_rfl

/-! ### evenhand / evenhandref16.once -/
def S58_k2 (nx1 : List Value → C) (ret : Value → C) (pn : Pn) (y0 y4 : Value) : C :=
 nextS P (binN .add 3 (Operand.tmp 17) (Operand.const (Value.int IntKind.i64 1)) y4 (Value.int IntKind.i64 1)) (fun x18_26 =>
 nx1 [y0, x18_26]) pn
def S58_l1 (nx1 : List Value → C) (ret : Value → C) (pn : Pn) (e : Env) : C :=
 nextS P (bltN .len #[41] 3 #[false] #[(e 0)]) (fun x15_1 =>
 nextS P (binN .lss 3 (Operand.tmp 13) (Operand.tmp 15) (e 4) x15_1) (fun x16_2 =>
 condS x16_2
 (nextS P (V (Instr.indexAt 41 (e 0) (e 4))) (fun x21_3 =>
 nextS P (V (Instr.loadAt 75 x21_3)) (fun x22_4 =>
 nextS P (V (Instr.alloc 75 true (.tuple #[]))) (fun x5_5 =>
 nextS P (U (Instr.storeAt 75 x5_5 x22_4)) (fun _ =>
 nextS P (V (Instr.fieldAt 75 x5_5 0)) (fun x23_7 =>
 nextS P (V (Instr.loadAt 3 x23_7)) (fun x24_8 =>
 nextS P (binN .eql 3 (Operand.tmp 24) (Operand.const (Value.int IntKind.i64 15)) x24_8 (Value.int IntKind.i64 15)) (fun x25_9 =>
 grdS x25_9 true (fun K => nextS P (V (Instr.fieldAt 75 x5_5 1)) K pn) fun x27_10 =>
 grdS x25_9 true (fun K => nextS P (V (Instr.loadAt 3 x27_10)) K pn) fun x28_11 =>
 grdS x25_9 true (fun K => K (e 4)) fun x29_12 =>
 grdS x25_9 true (fun K => nextS P (binN .add 3 (Operand.tmp 29) (Operand.const (Value.int IntKind.i64 1)) x29_12 (Value.int IntKind.i64 1)) K pn) fun x30_13 =>
 grdS x25_9 true (fun K => nextS P (binN .eql 3 (Operand.tmp 28) (Operand.tmp 30) x28_11 x30_13) K pn) fun x31_14 =>
 nextS P (pickN x25_9 x31_14 (Value.bool false)) (fun x32_15 =>
 condS x32_15
 (callS P 66 #[(e 0), (e 4), (Value.int IntKind.i64 1), (Value.slice none 0 0)] (fun x35_16 =>
 ret (.tuple #[x35_16, (Value.bool true)])) pn)
 (nextS P (V (Instr.fieldAt 75 x5_5 0)) (fun x36_17 =>
 nextS P (V (Instr.loadAt 3 x36_17)) (fun x37_18 =>
 nextS P (binN .neq 3 (Operand.tmp 37) (Operand.const (Value.int IntKind.i64 1)) x37_18 (Value.int IntKind.i64 1)) (fun x38_19 =>
 grdS x38_19 false (fun K => K (e 4)) fun x40_20 =>
 grdS x38_19 false (fun K => nextS P (binN .add 3 (Operand.tmp 40) (Operand.const (Value.int IntKind.i64 1)) x40_20 (Value.int IntKind.i64 1)) K pn) fun x41_21 =>
 grdS x38_19 false (fun K => K (e 0)) fun x42_22 =>
 grdS x38_19 false (fun K => nextS P (bltN .len #[41] 3 #[false] #[x42_22]) K pn) fun x43_23 =>
 grdS x38_19 false (fun K => nextS P (binN .geq 3 (Operand.tmp 41) (Operand.tmp 43) x41_21 x43_23) K pn) fun x44_24 =>
 nextS P (pickN x38_19 (Value.bool true) x44_24) (fun x45_25 =>
 condS x45_25
 (S58_k2 nx1 ret pn (e 0) (e 4))
 (nextS P (binN .add 3 (Operand.tmp 47) (Operand.const (Value.int IntKind.i64 1)) (e 4) (Value.int IntKind.i64 1)) (fun x48_27 =>
 callS P 67 #[(e 0), x48_27] (fun x49_28 =>
 condS x49_28
 (S58_k2 nx1 ret pn (e 0) (e 4))
 (nextS P (binN .add 3 (Operand.tmp 52) (Operand.const (Value.int IntKind.i64 1)) (e 4) (Value.int IntKind.i64 1)) (fun x53_29 =>
 nextS P (V (Instr.indexAt 41 (e 0) x53_29)) (fun x54_30 =>
 nextS P (V (Instr.loadAt 75 x54_30)) (fun x55_31 =>
 nextS P (V (Instr.alloc 75 true (.tuple #[]))) (fun x7_32 =>
 nextS P (U (Instr.storeAt 75 x7_32 x55_31)) (fun _ =>
 nextS P (V (Instr.fieldAt 75 x7_32 0)) (fun x56_34 =>
 nextS P (V (Instr.loadAt 3 x56_34)) (fun x57_35 =>
 nextS P (binN .eql 3 (Operand.tmp 57) (Operand.const (Value.int IntKind.i64 4)) x57_35 (Value.int IntKind.i64 4)) (fun x58_36 =>
 grdS x58_36 false (fun K => nextS P (V (Instr.fieldAt 75 x7_32 0)) K pn) fun x60_37 =>
 grdS x58_36 false (fun K => nextS P (V (Instr.loadAt 3 x60_37)) K pn) fun x61_38 =>
 grdS x58_36 false (fun K => nextS P (binN .eql 3 (Operand.tmp 61) (Operand.const (Value.int IntKind.i64 5)) x61_38 (Value.int IntKind.i64 5)) K pn) fun x62_39 =>
 nextS P (pickN x58_36 (Value.bool true) x62_39) (fun x63_40 =>
 condS x63_40
 (nextS P (V (Instr.fieldAt 75 x7_32 0)) (fun x65_41 =>
 nextS P (V (Instr.loadAt 3 x65_41)) (fun x66_42 =>
 nextS P (binN .add 3 (Operand.tmp 66) (Operand.const (Value.int IntKind.i64 2)) x66_42 (Value.int IntKind.i64 2)) (fun x67_43 =>
 nextS P (V (Instr.fieldAt 75 x5_5 2)) (fun x68_44 =>
 nextS P (V (Instr.loadAt 2 x68_44)) (fun x69_45 =>
 callS P 68 #[x67_43, x69_45, (Value.int IntKind.i64 0)] (fun x70_46 =>
 nextS P (V (Instr.extract x70_46 0)) (fun x71_47 =>
 nextS P (V (Instr.extract x70_46 1)) (fun x72_48 =>
 nextS P (V (Instr.build 75 #[(0, (Value.int IntKind.i64 1)), (2, x71_47)])) (fun x76_49 =>
 nextS P (V (Instr.buildSlice 41 1 #[(0, x76_49)])) (fun x77_50 =>
 callS P 66 #[(e 0), (e 4), (Value.int IntKind.i64 2), x77_50] (fun x78_51 =>
 ret (.tuple #[x78_51, (Value.bool true)])) pn) pn) pn) pn) pn) pn) pn) pn) pn) pn) pn)
 (nextS P (V (Instr.fieldAt 75 x7_32 0)) (fun x79_52 =>
 nextS P (V (Instr.loadAt 3 x79_52)) (fun x80_53 =>
 nextS P (binN .eql 3 (Operand.tmp 80) (Operand.const (Value.int IntKind.i64 16)) x80_53 (Value.int IntKind.i64 16)) (fun x81_54 =>
 condS x81_54
 (nextS P (V (Instr.fieldAt 75 x5_5 2)) (fun x82_55 =>
 nextS P (V (Instr.loadAt 2 x82_55)) (fun x83_56 =>
 nextS P (binN .eql 2 (Operand.tmp 83) (Operand.const (Value.int IntKind.i64 0)) x83_56 (Value.int IntKind.i64 0)) (fun x84_57 =>
 condS x84_57
 (nextS P (V (Instr.fieldAt 75 x7_32 1)) (fun x87_58 =>
 nextS P (V (Instr.loadAt 3 x87_58)) (fun x88_59 =>
 nextS P (V (Instr.build 75 #[(0, (Value.int IntKind.i64 15)), (1, x88_59)])) (fun x89_60 =>
 nextS P (V (Instr.buildSlice 41 1 #[(0, x89_60)])) (fun x90_61 =>
 callS P 66 #[(e 0), (e 4), (Value.int IntKind.i64 2), x90_61] (fun x91_62 =>
 ret (.tuple #[x91_62, (Value.bool true)])) pn) pn) pn) pn) pn)
 (callS P 66 #[(e 0), (e 4), (Value.int IntKind.i64 2), (Value.slice none 0 0)] (fun x94_63 =>
 ret (.tuple #[x94_63, (Value.bool true)])) pn)) pn) pn) pn)
 (nextS P (V (Instr.fieldAt 75 x7_32 0)) (fun x95_64 =>
 nextS P (V (Instr.loadAt 3 x95_64)) (fun x96_65 =>
 nextS P (binN .neq 3 (Operand.tmp 96) (Operand.const (Value.int IntKind.i64 1)) x96_65 (Value.int IntKind.i64 1)) (fun x97_66 =>
 grdS x97_66 false (fun K => K (e 4)) fun x99_67 =>
 grdS x97_66 false (fun K => nextS P (binN .add 3 (Operand.tmp 99) (Operand.const (Value.int IntKind.i64 2)) x99_67 (Value.int IntKind.i64 2)) K pn) fun x100_68 =>
 grdS x97_66 false (fun K => K (e 0)) fun x101_69 =>
 grdS x97_66 false (fun K => nextS P (bltN .len #[41] 3 #[false] #[x101_69]) K pn) fun x102_70 =>
 grdS x97_66 false (fun K => nextS P (binN .geq 3 (Operand.tmp 100) (Operand.tmp 102) x100_68 x102_70) K pn) fun x103_71 =>
 nextS P (pickN x97_66 (Value.bool true) x103_71) (fun x104_72 =>
 grdS x104_72 false (fun K => K (e 0)) fun x106_73 =>
 grdS x104_72 false (fun K => K (e 4)) fun x107_74 =>
 grdS x104_72 false (fun K => nextS P (binN .add 3 (Operand.tmp 107) (Operand.const (Value.int IntKind.i64 2)) x107_74 (Value.int IntKind.i64 2)) K pn) fun x108_75 =>
 grdS x104_72 false (fun K => nextS P (V (Instr.indexAt 41 x106_73 x108_75)) K pn) fun x109_76 =>
 grdS x104_72 false (fun K => nextS P (V (Instr.fieldAt 75 x109_76 0)) K pn) fun x110_77 =>
 grdS x104_72 false (fun K => nextS P (V (Instr.loadAt 3 x110_77)) K pn) fun x111_78 =>
 grdS x104_72 false (fun K => nextS P (binN .lss 3 (Operand.tmp 111) (Operand.const (Value.int IntKind.i64 6)) x111_78 (Value.int IntKind.i64 6)) K pn) fun x112_79 =>
 nextS P (pickN x104_72 (Value.bool true) x112_79) (fun x113_80 =>
 grdS x113_80 false (fun K => K (e 0)) fun x115_81 =>
 grdS x113_80 false (fun K => K (e 4)) fun x116_82 =>
 grdS x113_80 false (fun K => nextS P (binN .add 3 (Operand.tmp 116) (Operand.const (Value.int IntKind.i64 2)) x116_82 (Value.int IntKind.i64 2)) K pn) fun x117_83 =>
 grdS x113_80 false (fun K => nextS P (V (Instr.indexAt 41 x115_81 x117_83)) K pn) fun x118_84 =>
 grdS x113_80 false (fun K => nextS P (V (Instr.fieldAt 75 x118_84 0)) K pn) fun x119_85 =>
 grdS x113_80 false (fun K => nextS P (V (Instr.loadAt 3 x119_85)) K pn) fun x120_86 =>
 grdS x113_80 false (fun K => nextS P (binN .gtr 3 (Operand.tmp 120) (Operand.const (Value.int IntKind.i64 14)) x120_86 (Value.int IntKind.i64 14)) K pn) fun x121_87 =>
 nextS P (pickN x113_80 (Value.bool true) x121_87) (fun x122_88 =>
 condS x122_88
 (S58_k2 nx1 ret pn (e 0) (e 4))
 (nextS P (binN .add 3 (Operand.tmp 124) (Operand.const (Value.int IntKind.i64 2)) (e 4) (Value.int IntKind.i64 2)) (fun x125_89 =>
 callS P 67 #[(e 0), x125_89] (fun x126_90 =>
 DrawS fun S =>
 pureS P (binN .add 3 (Operand.tmp 129) (Operand.const (Value.int IntKind.i64 2)) (e 4) (Value.int IntKind.i64 2)) fun x130_91 =>
 pureS P (V (Instr.indexAt 41 (e 0) x130_91)) fun x131_92 =>
 pureS P (V (Instr.fieldAt 75 x131_92 0)) fun x132_93 =>
 takeS S P (V (Instr.loadAt 3 x132_93)) fun x133_94 =>
 pureS P (binN .add 3 (Operand.tmp 133) (Operand.const (Value.int IntKind.i64 2)) x133_94 (Value.int IntKind.i64 2)) fun x134_95 =>
 pureS P (V (Instr.fieldAt 75 x5_5 2)) fun x135_96 =>
 takeS S P (V (Instr.loadAt 2 x135_96)) fun x136_97 =>
 pureS P (V (Instr.fieldAt 75 x7_32 2)) fun x137_98 =>
 takeS S P (V (Instr.loadAt 2 x137_98)) fun x138_99 =>
 callS P 68 #[x134_95, x136_97, x138_99] (fun x139_100 w => S w ∧ (pureS P (V (Instr.extract x139_100 0)) fun x140_101 =>
 pureS P (V (Instr.extract x139_100 1)) fun x141_102 =>
 grdS x141_102 true (fun K => K x126_90) fun x144_103 =>
 grdS x141_102 true (fun K => nextS P (V (Op.unary .not x144_103)) K pn) fun x145_104 =>
 nextS P (pickN x141_102 x145_104 (Value.bool false)) (fun x146_105 =>
 condS x146_105
 (nextS P (V (Instr.build 75 #[(0, (Value.int IntKind.i64 1)), (2, x140_101)])) (fun x150_106 =>
 nextS P (V (Instr.buildSlice 41 1 #[(0, x150_106)])) (fun x151_107 =>
 callS P 66 #[(e 0), (e 4), (Value.int IntKind.i64 3), x151_107] (fun x152_108 =>
 ret (.tuple #[x152_108, (Value.bool true)])) pn) pn) pn)
 (S58_k2 nx1 ret pn (e 0) (e 4))) pn) w) pn) pn) pn)) pn) pn) pn) pn) pn) pn)) pn) pn) pn)) pn) pn) pn) pn) pn) pn) pn) pn) pn)) pn) pn)) pn) pn) pn) pn)) pn) pn) pn) pn) pn) pn) pn) pn)
 (ret (.tuple #[(e 0), (Value.bool false)]))) pn) pn
def S58 (a0 : Value) (ret : Value → C) (pn : Pn) : C :=
 LoopS [a0, (Value.int IntKind.i64 0)] [0, 4] fun nx1 e => S58_l1 nx1 ret pn e
def mo58 : Nat → Mo
  | 20 => (Mo.take 0 (Mo.take 1 (Mo.take 2 (Mo.take 3 (Mo.take 4 (Mo.take 5 (Mo.take 6 (Mo.take 7 (Mo.take 8 (Mo.take 9 (Mo.take 10 (Mo.eff 11 (Mo.take 12 (Mo.take 13 (Mo.take 14 (Mo.take 15 (Mo.take 16 Mo.done)))))))))))))))))
  | _ => .done
def lv58 : Nat → List Nat
  | 2 => [0, 4]
  | _ => []
theorem ok58 : okC Tryz.f58.ntmps mo58 (Tryz.f58.body.getD .skip) = true := by kernel_rfl
theorem eq58 (a0 : Value) (ret : Value → C) (pn : Pn) : D P mo58 lv58 pn (Tryz.f58.body.getD .skip) (finQ P Tryz.f58.results ret) (env0 [a0]) = S58 a0 ret pn := by kernel_rfl
theorem c58 {a0 : Value} {R : Ending → World → Prop} {w : World} (h : S58 a0 (fun v w => R (.returned v) w) (fun c w => R (.panicked c) w) w) : Calls P 58 #[a0] w R :=
  callsD mixed mo58 lv58 Tryz.func58 rfl (Nat.le_of_ble_eq_true rfl) ok58 ((congrFun (eq58 a0 _ _) w).mpr h)
theorem en58 (args : Array Value) (w : World) : (callFunc 58 args).run P w = .ok (.enter 58 args) w := by kernel_rfl

/-! ### evenhand / code.Known -/
def S61 (a0 : Value) (ret : Value → C) (pn : Pn) : C :=
 nextS P (binN .geq 3 (Operand.tmp 3) (Operand.const (Value.int IntKind.i64 1)) a0 (Value.int IntKind.i64 1)) (fun x4_1 =>
 grdS x4_1 true (fun K => K a0) fun x6_2 =>
 grdS x4_1 true (fun K => nextS P (binN .leq 3 (Operand.tmp 6) (Operand.const (Value.int IntKind.i64 25)) x6_2 (Value.int IntKind.i64 25)) K pn) fun x7_3 =>
 nextS P (pickN x4_1 x7_3 (Value.bool false)) (fun x8_4 =>
 ret x8_4) pn) pn
def mo61 : Nat → Mo := fun _ => .done
def lv61 : Nat → List Nat := fun _ => []
theorem ok61 : okC Tryz.f61.ntmps mo61 (Tryz.f61.body.getD .skip) = true := by kernel_rfl
theorem eq61 (a0 : Value) (ret : Value → C) (pn : Pn) : D P mo61 lv61 pn (Tryz.f61.body.getD .skip) (finQ P Tryz.f61.results ret) (env0 [a0]) = S61 a0 ret pn := by kernel_rfl
theorem c61 {a0 : Value} {R : Ending → World → Prop} {w : World} (h : S61 a0 (fun v w => R (.returned v) w) (fun c w => R (.panicked c) w) w) : Calls P 61 #[a0] w R :=
  callsD mixed mo61 lv61 Tryz.func61 rfl (Nat.le_of_ble_eq_true rfl) ok61 ((congrFun (eq61 a0 _ _) w).mpr h)
theorem en61 (args : Array Value) (w : World) : (callFunc 61 args).run P w = .ok (.enter 61 args) w := by kernel_rfl

/-! ### evenhand / spec.Fixed -/
def S64 (a0 a1 : Value) (ret : Value → C) (pn : Pn) : C :=
 nextS P (V (Instr.box 59 a0)) (fun x2_1 =>
 nextS P (V (Instr.box 3 a1)) (fun x3_2 =>
 nextS P (V (Instr.loadAt 3 x3_2)) (fun x6_3 =>
 nextS P (binN .geq 3 (Operand.tmp 6) (Operand.const (Value.int IntKind.i64 0)) x6_3 (Value.int IntKind.i64 0)) (fun x7_4 =>
 grdS x7_4 true (fun K => nextS P (V (Instr.loadAt 3 x3_2)) K pn) fun x9_5 =>
 grdS x7_4 true (fun K => nextS P (V (Instr.fieldAt 59 x2_1 1)) K pn) fun x10_6 =>
 grdS x7_4 true (fun K => nextS P (V (Instr.loadAt 3 x10_6)) K pn) fun x11_7 =>
 grdS x7_4 true (fun K => nextS P (binN .lss 3 (Operand.tmp 9) (Operand.tmp 11) x9_5 x11_7) K pn) fun x12_8 =>
 nextS P (pickN x7_4 x12_8 (Value.bool false)) (fun x13_9 =>
 grdS x13_9 true (fun K => nextS P (V (Instr.fieldAt 59 x2_1 4)) K pn) fun x16_10 =>
 grdS x13_9 true (fun K => nextS P (V (Instr.loadAt 36 x16_10)) K pn) fun x17_11 =>
 grdS x13_9 true (fun K => nextS P (V (Instr.makeFunc (Fn.func 75) #[] #[x3_2])) K pn) fun x18_12 =>
 grdS x13_9 true (fun K => callS P 74 #[x17_11, x18_12] K pn) fun x19_13 =>
 grdS x13_9 true (fun K => nextS P (V (Op.unary .not x19_13)) K pn) fun x20_14 =>
 nextS P (pickN x13_9 x20_14 (Value.bool false)) (fun x21_15 =>
 ret x21_15) pn) pn) pn) pn) pn) pn
def mo64 : Nat → Mo := fun _ => .done
def lv64 : Nat → List Nat := fun _ => []
theorem ok64 : okC Tryz.f64.ntmps mo64 (Tryz.f64.body.getD .skip) = true := by kernel_rfl
theorem eq64 (a0 a1 : Value) (ret : Value → C) (pn : Pn) : D P mo64 lv64 pn (Tryz.f64.body.getD .skip) (finQ P Tryz.f64.results ret) (env0 [a0, a1]) = S64 a0 a1 ret pn := by kernel_rfl
theorem c64 {a0 a1 : Value} {R : Ending → World → Prop} {w : World} (h : S64 a0 a1 (fun v w => R (.returned v) w) (fun c w => R (.panicked c) w) w) : Calls P 64 #[a0, a1] w R :=
  callsD mixed mo64 lv64 Tryz.func64 rfl (Nat.le_of_ble_eq_true rfl) ok64 ((congrFun (eq64 a0 a1 _ _) w).mpr h)
theorem en64 (args : Array Value) (w : World) : (callFunc 64 args).run P w = .ok (.enter 64 args) w := by kernel_rfl

/-! ### evenhand / fold.Fold -/
def S65_l2 (nx1 : List Value → C) (nx2 : List Value → C) (ret : Value → C) (pn : Pn) (e : Env) : C :=
 nextS P (binN .lss 3 (Operand.tmp 14) (Operand.tmp 13) (e 14) (e 13)) (fun x15_8 =>
 condS x15_8
 (callS P 77 #[(e 3), (e 14)] (fun x19_9 =>
 condS x19_9
 (nx1 [(e 3)])
 (nextS P (binN .add 3 (Operand.tmp 14) (Operand.const (Value.int IntKind.i64 1)) (e 14) (Value.int IntKind.i64 1)) (fun x20_10 =>
 nx2 [(e 3), (e 13), x20_10]) pn)) pn)
 (nextS P (nilN (e 3)) (fun x22_11 =>
 nextS P (V (Instr.fieldAt 162 x22_11 0)) (fun x23_12 =>
 nextS P (V (Instr.loadAt 36 x23_12)) (fun x24_13 =>
 ret x24_13) pn) pn) pn)) pn
def S65_l1 (nx1 : List Value → C) (ret : Value → C) (pn : Pn) (e : Env) : C :=
 nextS P (nilN (e 3)) (fun x10_4 =>
 nextS P (V (Instr.fieldAt 162 x10_4 0)) (fun x11_5 =>
 nextS P (V (Instr.loadAt 36 x11_5)) (fun x12_6 =>
 nextS P (bltN .len #[36] 3 #[false] #[x12_6]) (fun x13_7 =>
 LoopS [(e 3), x13_7, (Value.int IntKind.i64 0)] [3, 13, 14] fun nx2 e => S65_l2 nx1 nx2 ret pn e) pn) pn) pn) pn
def S65 (a0 : Value) (ret : Value → C) (pn : Pn) : C :=
 callS P 16 #[a0] (fun x6_1 =>
 nextS P (V (Instr.build 162 #[(0, x6_1)])) (fun x7_2 =>
 nextS P (V (Instr.box 162 x7_2)) (fun x8_3 =>
 LoopS [x8_3] [3] fun nx1 e => S65_l1 nx1 ret pn e) pn) pn) pn
def mo65 : Nat → Mo := fun _ => .done
def lv65 : Nat → List Nat
  | 2 => [3]
  | 3 => [3, 13, 14]
  | _ => []
theorem ok65_0 : okC Tryz.f65.ntmps mo65 (cl (Tryz.f65.body.getD .skip)) = true := by kernel_rfl
theorem ok65_1 : okC Tryz.f65.ntmps mo65 (cl (ci (cr (Tryz.f65.body.getD .skip)))) = true := by kernel_rfl
theorem ok65_2 : okC Tryz.f65.ntmps mo65 (cr (cr (ci (cr (Tryz.f65.body.getD .skip))))) = true := by kernel_rfl
theorem eq65 (a0 : Value) (ret : Value → C) (pn : Pn) : DS P mo65 lv65 pn (cl (Tryz.f65.body.getD .skip)) (cl (ci (cr (Tryz.f65.body.getD .skip)))) (cr (cr (ci (cr (Tryz.f65.body.getD .skip))))) 0 (finQ P Tryz.f65.results ret) (env0 [a0]) = S65 a0 ret pn := by kernel_rfl
theorem c65 {a0 : Value} {R : Ending → World → Prop} {w : World} (h : S65 a0 (fun v w => R (.returned v) w) (fun c w => R (.panicked c) w) w) : Calls P 65 #[a0] w R :=
  callsDS mixed mo65 lv65 Tryz.func65 (by kernel_rfl) (Nat.le_of_ble_eq_true rfl) ok65_0 ok65_1 ok65_2 (by kernel_rfl) ((congrFun (eq65 a0 _ _) w).mpr h)
theorem en65 (args : Array Value) (w : World) : (callFunc 65 args).run P w = .ok (.enter 65 args) w := by kernel_rfl

/-! ### evenhand / evenhandref16.replaced -/
def S66_k2 (nx1 : List Value → C) (ret : Value → C) (pn : Pn) (y1 y3 y9 y10 y11 : Value) : C :=
 nextS P (binN .add 3 (Operand.tmp 33) (Operand.const (Value.int IntKind.i64 1)) y11 (Value.int IntKind.i64 1)) (fun x34_41 =>
 nx1 [y1, y3, y9, y10, x34_41]) pn
def S66_l1 (nx1 : List Value → C) (ret : Value → C) (pn : Pn) (e : Env) : C :=
 nextS P (bltN .len #[41] 3 #[false] #[(e 9)]) (fun x31_10 =>
 nextS P (binN .lss 3 (Operand.tmp 29) (Operand.tmp 31) (e 11) x31_10) (fun x32_11 =>
 condS x32_11
 (nextS P (V (Instr.indexAt 41 (e 9) (e 11))) (fun x37_12 =>
 nextS P (V (Instr.fieldAt 75 x37_12 0)) (fun x38_13 =>
 nextS P (V (Instr.loadAt 3 x38_13)) (fun x39_14 =>
 nextS P (binN .eql 3 (Operand.tmp 39) (Operand.const (Value.int IntKind.i64 15)) x39_14 (Value.int IntKind.i64 15)) (fun x40_15 =>
 grdS x40_15 false (fun K => K (e 9)) fun x42_16 =>
 grdS x40_15 false (fun K => K (e 11)) fun x43_17 =>
 grdS x40_15 false (fun K => nextS P (V (Instr.indexAt 41 x42_16 x43_17)) K pn) fun x44_18 =>
 grdS x40_15 false (fun K => nextS P (V (Instr.fieldAt 75 x44_18 0)) K pn) fun x45_19 =>
 grdS x40_15 false (fun K => nextS P (V (Instr.loadAt 3 x45_19)) K pn) fun x46_20 =>
 grdS x40_15 false (fun K => nextS P (binN .eql 3 (Operand.tmp 46) (Operand.const (Value.int IntKind.i64 16)) x46_20 (Value.int IntKind.i64 16)) K pn) fun x47_21 =>
 nextS P (pickN x40_15 (Value.bool true) x47_21) (fun x48_22 =>
 grdS x48_22 true (fun K => K (e 9)) fun x50_23 =>
 grdS x48_22 true (fun K => K (e 11)) fun x51_24 =>
 grdS x48_22 true (fun K => nextS P (V (Instr.indexAt 41 x50_23 x51_24)) K pn) fun x52_25 =>
 grdS x48_22 true (fun K => nextS P (V (Instr.fieldAt 75 x52_25 1)) K pn) fun x53_26 =>
 grdS x48_22 true (fun K => nextS P (V (Instr.loadAt 3 x53_26)) K pn) fun x54_27 =>
 grdS x48_22 true (fun K => K (e 1)) fun x55_28 =>
 grdS x48_22 true (fun K => nextS P (binN .gtr 3 (Operand.tmp 54) (Operand.tmp 55) x54_27 x55_28) K pn) fun x56_29 =>
 nextS P (pickN x48_22 x56_29 (Value.bool false)) (fun x57_30 =>
 condS x57_30
 (nextS P (V (Instr.indexAt 41 (e 9) (e 11))) (fun x62_31 =>
 nextS P (V (Instr.fieldAt 75 x62_31 1)) (fun x63_32 =>
 nextS P (V (Instr.loadAt 3 x63_32)) (fun x64_33 =>
 nextS P (binN .sub 3 (Operand.tmp 64) (Operand.tmp 65) x64_33 (e 10)) (fun x66_34 =>
 nextS P (bltN .len #[41] 3 #[false] #[(e 3)]) (fun x69_35 =>
 nextS P (binN .add 3 (Operand.tmp 67) (Operand.tmp 69) (e 1) x69_35) (fun x70_36 =>
 nextS P (bltN .max #[3, 3] 3 #[false, false] #[x66_34, x70_36]) (fun x71_37 =>
 nextS P (V (Instr.indexAt 41 (e 9) (e 11))) (fun x72_38 =>
 nextS P (V (Instr.fieldAt 75 x72_38 1)) (fun x73_39 =>
 nextS P (U (Instr.storeAt 3 x73_39 x71_37)) (fun _ =>
 S66_k2 nx1 ret pn (e 1) (e 3) (e 9) (e 10) (e 11)) pn) pn) pn) pn) pn) pn) pn) pn) pn) pn)
 (S66_k2 nx1 ret pn (e 1) (e 3) (e 9) (e 10) (e 11))) pn) pn) pn) pn) pn) pn)
 (ret (e 9))) pn) pn
def S66 (a0 a1 a2 a3 : Value) (ret : Value → C) (pn : Pn) : C :=
 DrawS fun S =>
 pureS P (V (Instr.sliceAt 41 a0 none (some a1) none)) fun x15_1 =>
 pureS P (binN .add 3 (Operand.tmp 20) (Operand.tmp 21) a1 a2) fun x22_2 =>
 pureS P (V (Instr.sliceAt 41 a0 (some x22_2) none none)) fun x23_3 =>
 nextS P (V (Instr.buildSlice 41 0 #[])) (fun x12_4 w => S w ∧ (nextS P (bltN .append #[41, 41] 41 #[false, false] #[x12_4, x15_1]) (fun x16_5 w => S w ∧ (nextS P (bltN .append #[41, 41] 41 #[false, false] #[x16_5, a3]) (fun x18_6 w => S w ∧ (nextS P (bltN .append #[41, 41] 41 #[false, false] #[x18_6, x23_3]) (fun x24_7 w => S w ∧ (nextS P (bltN .len #[41] 3 #[false] #[a3]) (fun x27_8 =>
 nextS P (binN .sub 3 (Operand.tmp 25) (Operand.tmp 27) a2 x27_8) (fun x28_9 =>
 LoopS [a1, a3, x24_7, x28_9, (Value.int IntKind.i64 0)] [1, 3, 9, 10, 11] fun nx1 e => S66_l1 nx1 ret pn e) pn) pn) w) pn) w) pn) w) pn) w) pn
def mo66 : Nat → Mo
  | 1 => (Mo.take 1 (Mo.take 2 (Mo.take 3 (Mo.take 5 (Mo.take 7 (Mo.take 8 (Mo.take 9 (Mo.take 10 (Mo.take 11 (Mo.eff 0 (Mo.eff 4 (Mo.eff 6 (Mo.eff 12 (Mo.take 13 Mo.done))))))))))))))
  | _ => .done
def lv66 : Nat → List Nat
  | 4 => [1, 3, 9, 10, 11]
  | _ => []
theorem ok66 : okC Tryz.f66.ntmps mo66 (Tryz.f66.body.getD .skip) = true := by kernel_rfl
theorem eq66 (a0 a1 a2 a3 : Value) (ret : Value → C) (pn : Pn) : D P mo66 lv66 pn (Tryz.f66.body.getD .skip) (finQ P Tryz.f66.results ret) (env0 [a0, a1, a2, a3]) = S66 a0 a1 a2 a3 ret pn := by kernel_rfl
theorem c66 {a0 a1 a2 a3 : Value} {R : Ending → World → Prop} {w : World} (h : S66 a0 a1 a2 a3 (fun v w => R (.returned v) w) (fun c w => R (.panicked c) w) w) : Calls P 66 #[a0, a1, a2, a3] w R :=
  callsD mixed mo66 lv66 Tryz.func66 rfl (Nat.le_of_ble_eq_true rfl) ok66 ((congrFun (eq66 a0 a1 a2 a3 _ _) w).mpr h)
theorem en66 (args : Array Value) (w : World) : (callFunc 66 args).run P w = .ok (.enter 66 args) w := by kernel_rfl

/-! ### evenhand / evenhandref16.target -/
def S67_l1 (nx1 : List Value → C) (ret : Value → C) (pn : Pn) (e : Env) : C :=
 nextS P (bltN .len #[41] 3 #[false] #[(e 0)]) (fun x8_1 =>
 nextS P (binN .lss 3 (Operand.tmp 6) (Operand.tmp 8) (e 5) x8_1) (fun x9_2 =>
 condS x9_2
 (nextS P (V (Instr.indexAt 41 (e 0) (e 5))) (fun x14_3 =>
 nextS P (V (Instr.fieldAt 75 x14_3 0)) (fun x15_4 =>
 nextS P (V (Instr.loadAt 3 x15_4)) (fun x16_5 =>
 nextS P (binN .eql 3 (Operand.tmp 16) (Operand.const (Value.int IntKind.i64 15)) x16_5 (Value.int IntKind.i64 15)) (fun x17_6 =>
 grdS x17_6 false (fun K => K (e 0)) fun x19_7 =>
 grdS x17_6 false (fun K => K (e 5)) fun x20_8 =>
 grdS x17_6 false (fun K => nextS P (V (Instr.indexAt 41 x19_7 x20_8)) K pn) fun x21_9 =>
 grdS x17_6 false (fun K => nextS P (V (Instr.fieldAt 75 x21_9 0)) K pn) fun x22_10 =>
 grdS x17_6 false (fun K => nextS P (V (Instr.loadAt 3 x22_10)) K pn) fun x23_11 =>
 grdS x17_6 false (fun K => nextS P (binN .eql 3 (Operand.tmp 23) (Operand.const (Value.int IntKind.i64 16)) x23_11 (Value.int IntKind.i64 16)) K pn) fun x24_12 =>
 nextS P (pickN x17_6 (Value.bool true) x24_12) (fun x25_13 =>
 grdS x25_13 true (fun K => K (e 0)) fun x27_14 =>
 grdS x25_13 true (fun K => K (e 5)) fun x28_15 =>
 grdS x25_13 true (fun K => nextS P (V (Instr.indexAt 41 x27_14 x28_15)) K pn) fun x29_16 =>
 grdS x25_13 true (fun K => nextS P (V (Instr.fieldAt 75 x29_16 1)) K pn) fun x30_17 =>
 grdS x25_13 true (fun K => nextS P (V (Instr.loadAt 3 x30_17)) K pn) fun x31_18 =>
 grdS x25_13 true (fun K => K (e 1)) fun x32_19 =>
 grdS x25_13 true (fun K => nextS P (binN .eql 3 (Operand.tmp 31) (Operand.tmp 32) x31_18 x32_19) K pn) fun x33_20 =>
 nextS P (pickN x25_13 x33_20 (Value.bool false)) (fun x34_21 =>
 condS x34_21
 (ret (Value.bool true))
 (nextS P (binN .add 3 (Operand.tmp 10) (Operand.const (Value.int IntKind.i64 1)) (e 5) (Value.int IntKind.i64 1)) (fun x11_22 =>
 nx1 [(e 0), (e 1), x11_22]) pn)) pn) pn) pn) pn) pn) pn)
 (ret (Value.bool false))) pn) pn
def S67 (a0 a1 : Value) (ret : Value → C) (pn : Pn) : C :=
 LoopS [a0, a1, (Value.int IntKind.i64 0)] [0, 1, 5] fun nx1 e => S67_l1 nx1 ret pn e
def mo67 : Nat → Mo := fun _ => .done
def lv67 : Nat → List Nat
  | 2 => [0, 1, 5]
  | _ => []
theorem ok67 : okC Tryz.f67.ntmps mo67 (Tryz.f67.body.getD .skip) = true := by kernel_rfl
theorem eq67 (a0 a1 : Value) (ret : Value → C) (pn : Pn) : D P mo67 lv67 pn (Tryz.f67.body.getD .skip) (finQ P Tryz.f67.results ret) (env0 [a0, a1]) = S67 a0 a1 ret pn := by kernel_rfl
theorem c67 {a0 a1 : Value} {R : Ending → World → Prop} {w : World} (h : S67 a0 a1 (fun v w => R (.returned v) w) (fun c w => R (.panicked c) w) w) : Calls P 67 #[a0, a1] w R :=
  callsD mixed mo67 lv67 Tryz.func67 rfl (Nat.le_of_ble_eq_true rfl) ok67 ((congrFun (eq67 a0 a1 _ _) w).mpr h)
theorem en67 (args : Array Value) (w : World) : (callFunc 67 args).run P w = .ok (.enter 67 args) w := by kernel_rfl

/-! ### evenhand / evenhandref01.Do -/
def S68_k1 (ret : Value → C) (pn : Pn) (y0 y1 y2 y80 : Value) : C :=
 condS y80
 (nextS P (binN .eql 2 (Operand.tmp 83) (Operand.const (Value.int IntKind.i64 0)) y2 (Value.int IntKind.i64 0)) (fun x84_36 =>
 condS x84_36
 (ret (.tuple #[(Value.int IntKind.i64 0), (Value.bool false)]))
 (callS P 82 #[y1] (fun x87_37 =>
 nextS P (V (Instr.extract x87_37 0)) (fun x88_38 =>
 nextS P (V (Instr.extract x87_37 1)) (fun x89_39 =>
 callS P 82 #[y2] (fun x92_40 =>
 nextS P (V (Instr.extract x92_40 0)) (fun x93_41 =>
 nextS P (V (Instr.extract x92_40 1)) (fun x94_42 =>
 callS P 83 #[x88_38, x93_41] (fun x98_43 =>
 nextS P (V (Instr.extract x98_43 0)) (fun x99_44 =>
 nextS P (V (Instr.extract x98_43 1)) (fun x100_45 =>
 nextS P (binN .eql 3 (Operand.tmp 101) (Operand.const (Value.int IntKind.i64 11)) y0 (Value.int IntKind.i64 11)) (fun x102_46 =>
 condS x102_46
 (nextS P (binN .neq 4 (Operand.tmp 104) (Operand.tmp 105) x89_39 x94_42) (fun x106_47 =>
 callS P 84 #[x99_44, x106_47] (fun x107_48 =>
 ret (.tuple #[x107_48, (Value.bool true)])) pn) pn)
 (callS P 84 #[x100_45, x89_39] (fun x110_49 =>
 ret (.tuple #[x110_49, (Value.bool true)])) pn)) pn) pn) pn) pn) pn) pn) pn) pn) pn) pn)) pn)
 (ret (.tuple #[(Value.int IntKind.i64 0), (Value.bool false)]))
def S68 (a0 a1 a2 : Value) (ret : Value → C) (pn : Pn) : C :=
 nextS P (V (convert 2 152 a1)) (fun x17_1 =>
 nextS P (V (convert 2 152 a2)) (fun x19_2 =>
 nextS P (binN .eql 3 (Operand.tmp 20) (Operand.const (Value.int IntKind.i64 6)) a0 (Value.int IntKind.i64 6)) (fun x22_3 =>
 condS x22_3
 (callS P 78 #[(Value.int IntKind.u64 0), x17_1] (fun x24_4 =>
 nextS P (V (convert 152 2 x24_4)) (fun x25_5 =>
 ret (.tuple #[x25_5, (Value.bool true)])) pn) pn)
 (nextS P (binN .eql 3 (Operand.tmp 20) (Operand.const (Value.int IntKind.i64 7)) a0 (Value.int IntKind.i64 7)) (fun x27_6 =>
 condS x27_6
 (nextS P (binN .eql 152 (Operand.tmp 28) (Operand.const (Value.int IntKind.u64 0)) x17_1 (Value.int IntKind.u64 0)) (fun x29_7 =>
 callS P 79 #[x29_7] (fun x30_8 =>
 ret (.tuple #[x30_8, (Value.bool true)])) pn) pn)
 (nextS P (binN .eql 3 (Operand.tmp 20) (Operand.const (Value.int IntKind.i64 8)) a0 (Value.int IntKind.i64 8)) (fun x32_9 =>
 condS x32_9
 (callS P 80 #[x17_1, x19_2] (fun x35_10 =>
 nextS P (V (convert 152 2 x35_10)) (fun x36_11 =>
 ret (.tuple #[x36_11, (Value.bool true)])) pn) pn)
 (nextS P (binN .eql 3 (Operand.tmp 20) (Operand.const (Value.int IntKind.i64 9)) a0 (Value.int IntKind.i64 9)) (fun x38_12 =>
 condS x38_12
 (callS P 78 #[x17_1, x19_2] (fun x41_13 =>
 nextS P (V (convert 152 2 x41_13)) (fun x42_14 =>
 ret (.tuple #[x42_14, (Value.bool true)])) pn) pn)
 (nextS P (binN .eql 3 (Operand.tmp 20) (Operand.const (Value.int IntKind.i64 10)) a0 (Value.int IntKind.i64 10)) (fun x44_15 =>
 condS x44_15
 (callS P 81 #[x17_1, x19_2] (fun x47_16 =>
 nextS P (V (convert 152 2 x47_16)) (fun x48_17 =>
 ret (.tuple #[x48_17, (Value.bool true)])) pn) pn)
 (nextS P (binN .eql 3 (Operand.tmp 20) (Operand.const (Value.int IntKind.i64 13)) a0 (Value.int IntKind.i64 13)) (fun x50_18 =>
 condS x50_18
 (nextS P (binN .xor 152 (Operand.tmp 51) (Operand.const (Value.int IntKind.u64 9223372036854775808)) x17_1 (Value.int IntKind.u64 9223372036854775808)) (fun x52_19 =>
 nextS P (binN .xor 152 (Operand.tmp 53) (Operand.const (Value.int IntKind.u64 9223372036854775808)) x19_2 (Value.int IntKind.u64 9223372036854775808)) (fun x54_20 =>
 nextS P (binN .lss 152 (Operand.tmp 52) (Operand.tmp 54) x52_19 x54_20) (fun x55_21 =>
 callS P 79 #[x55_21] (fun x56_22 =>
 ret (.tuple #[x56_22, (Value.bool true)])) pn) pn) pn) pn)
 (nextS P (binN .eql 3 (Operand.tmp 20) (Operand.const (Value.int IntKind.i64 14)) a0 (Value.int IntKind.i64 14)) (fun x58_23 =>
 condS x58_23
 (nextS P (binN .xor 152 (Operand.tmp 59) (Operand.tmp 60) x17_1 x19_2) (fun x61_24 =>
 nextS P (binN .eql 152 (Operand.tmp 61) (Operand.const (Value.int IntKind.u64 0)) x61_24 (Value.int IntKind.u64 0)) (fun x62_25 =>
 callS P 79 #[x62_25] (fun x63_26 =>
 ret (.tuple #[x63_26, (Value.bool true)])) pn) pn) pn)
 (nextS P (binN .eql 3 (Operand.tmp 20) (Operand.const (Value.int IntKind.i64 15)) a0 (Value.int IntKind.i64 15)) (fun x65_27 =>
 condS x65_27
 (nextS P (binN .and 152 (Operand.tmp 66) (Operand.tmp 67) x17_1 x19_2) (fun x68_28 =>
 nextS P (V (convert 152 2 x68_28)) (fun x69_29 =>
 ret (.tuple #[x69_29, (Value.bool true)])) pn) pn)
 (nextS P (binN .eql 3 (Operand.tmp 20) (Operand.const (Value.int IntKind.i64 16)) a0 (Value.int IntKind.i64 16)) (fun x71_30 =>
 condS x71_30
 (callS P 80 #[x17_1, x19_2] (fun x74_31 =>
 nextS P (binN .and 152 (Operand.tmp 75) (Operand.tmp 76) x17_1 x19_2) (fun x77_32 =>
 callS P 78 #[x74_31, x77_32] (fun x78_33 =>
 nextS P (V (convert 152 2 x78_33)) (fun x79_34 =>
 ret (.tuple #[x79_34, (Value.bool true)])) pn) pn) pn) pn)
 (nextS P (binN .eql 3 (Operand.tmp 20) (Operand.const (Value.int IntKind.i64 11)) a0 (Value.int IntKind.i64 11)) (fun x81_35 =>
 condS x81_35
 (S68_k1 ret pn a0 a1 a2 x81_35)
 (nextS P (binN .eql 3 (Operand.tmp 20) (Operand.const (Value.int IntKind.i64 12)) a0 (Value.int IntKind.i64 12)) (fun x82_50 =>
 S68_k1 ret pn a0 a1 a2 x82_50) pn)) pn)) pn)) pn)) pn)) pn)) pn)) pn)) pn)) pn)) pn) pn) pn
def mo68 : Nat → Mo := fun _ => .done
def lv68 : Nat → List Nat := fun _ => []
theorem ok68 : okC Tryz.f68.ntmps mo68 (Tryz.f68.body.getD .skip) = true := by kernel_rfl
theorem eq68 (a0 a1 a2 : Value) (ret : Value → C) (pn : Pn) : D P mo68 lv68 pn (Tryz.f68.body.getD .skip) (finQ P Tryz.f68.results ret) (env0 [a0, a1, a2]) = S68 a0 a1 a2 ret pn := by kernel_rfl
theorem c68 {a0 a1 a2 : Value} {R : Ending → World → Prop} {w : World} (h : S68 a0 a1 a2 (fun v w => R (.returned v) w) (fun c w => R (.panicked c) w) w) : Calls P 68 #[a0, a1, a2] w R :=
  callsD mixed mo68 lv68 Tryz.func68 rfl (Nat.le_of_ble_eq_true rfl) ok68 ((congrFun (eq68 a0 a1 a2 _ _) w).mpr h)
theorem en68 (args : Array Value) (w : World) : (callFunc 68 args).run P w = .ok (.enter 68 args) w := by kernel_rfl

/-! ### slices.ContainsFunc[[]evenhand / code.Ins,evenhand / code.Ins] -/
def S74 (a0 a1 : Value) (ret : Value → C) (pn : Pn) : C :=
 callS P 91 #[a0, a1] (fun x7_1 =>
 nextS P (binN .geq 3 (Operand.tmp 7) (Operand.const (Value.int IntKind.i64 0)) x7_1 (Value.int IntKind.i64 0)) (fun x8_2 =>
 ret x8_2) pn) pn
def mo74 : Nat → Mo := fun _ => .done
def lv74 : Nat → List Nat := fun _ => []
theorem ok74 : okC Tryz.f74.ntmps mo74 (Tryz.f74.body.getD .skip) = true := by kernel_rfl
theorem eq74 (a0 a1 : Value) (ret : Value → C) (pn : Pn) : D P mo74 lv74 pn (Tryz.f74.body.getD .skip) (finQ P Tryz.f74.results ret) (env0 [a0, a1]) = S74 a0 a1 ret pn := by kernel_rfl
theorem c74 {a0 a1 : Value} {R : Ending → World → Prop} {w : World} (h : S74 a0 a1 (fun v w => R (.returned v) w) (fun c w => R (.panicked c) w) w) : Calls P 74 #[a0, a1] w R :=
  callsD mixed mo74 lv74 Tryz.func74 rfl (Nat.le_of_ble_eq_true rfl) ok74 ((congrFun (eq74 a0 a1 _ _) w).mpr h)
theorem en74 (args : Array Value) (w : World) : (callFunc 74 args).run P w = .ok (.enter 74 args) w := by kernel_rfl

/-! ### evenhand / spec.Fixed$1 -/
def S75 (a0 a1 : Value) (ret : Value → C) (pn : Pn) : C :=
 nextS P (V (Instr.box 69 a0)) (fun x2_1 =>
 nextS P (V (Instr.loadAt 69 x2_1)) (fun x4_2 =>
 nextS P (V (Instr.loadAt 3 a1)) (fun x5_3 =>
 callS P 76 #[x4_2, x5_3] (fun x6_4 =>
 ret x6_4) pn) pn) pn) pn
def mo75 : Nat → Mo := fun _ => .done
def lv75 : Nat → List Nat := fun _ => []
theorem ok75 : okC Tryz.f75.ntmps mo75 (Tryz.f75.body.getD .skip) = true := by kernel_rfl
theorem eq75 (a0 a1 : Value) (ret : Value → C) (pn : Pn) : D P mo75 lv75 pn (Tryz.f75.body.getD .skip) (finQ P Tryz.f75.results ret) (env0 [a0, a1]) = S75 a0 a1 ret pn := by kernel_rfl
theorem c75 {a0 a1 : Value} {R : Ending → World → Prop} {w : World} (h : S75 a0 a1 (fun v w => R (.returned v) w) (fun c w => R (.panicked c) w) w) : Calls P 75 #[a0, a1] w R :=
  callsD mixed mo75 lv75 Tryz.func75 rfl (Nat.le_of_ble_eq_true rfl) ok75 ((congrFun (eq75 a0 a1 _ _) w).mpr h)
theorem en75 (args : Array Value) (w : World) : (callFunc 75 args).run P w = .ok (.enter 75 args) w := by kernel_rfl

/-! ### evenhand / spec.sets -/
def S76 (a0 a1 : Value) (ret : Value → C) (pn : Pn) : C :=
 nextS P (V (Instr.box 69 a0)) (fun x2_1 =>
 nextS P (V (Instr.fieldAt 69 x2_1 0)) (fun x5_2 =>
 nextS P (V (Instr.loadAt 3 x5_2)) (fun x6_3 =>
 nextS P (binN .eql 3 (Operand.tmp 6) (Operand.const (Value.int IntKind.i64 3)) x6_3 (Value.int IntKind.i64 3)) (fun x7_4 =>
 grdS x7_4 false (fun K => nextS P (V (Instr.fieldAt 69 x2_1 0)) K pn) fun x9_5 =>
 grdS x7_4 false (fun K => nextS P (V (Instr.loadAt 3 x9_5)) K pn) fun x10_6 =>
 grdS x7_4 false (fun K => nextS P (binN .eql 3 (Operand.tmp 10) (Operand.const (Value.int IntKind.i64 21)) x10_6 (Value.int IntKind.i64 21)) K pn) fun x11_7 =>
 nextS P (pickN x7_4 (Value.bool true) x11_7) (fun x12_8 =>
 grdS x12_8 true (fun K => nextS P (V (Instr.fieldAt 69 x2_1 1)) K pn) fun x14_9 =>
 grdS x12_8 true (fun K => nextS P (V (Instr.loadAt 3 x14_9)) K pn) fun x15_10 =>
 grdS x12_8 true (fun K => K a1) fun x16_11 =>
 grdS x12_8 true (fun K => nextS P (binN .eql 3 (Operand.tmp 15) (Operand.tmp 16) x15_10 x16_11) K pn) fun x17_12 =>
 nextS P (pickN x12_8 x17_12 (Value.bool false)) (fun x18_13 =>
 ret x18_13) pn) pn) pn) pn) pn) pn
def mo76 : Nat → Mo := fun _ => .done
def lv76 : Nat → List Nat := fun _ => []
theorem ok76 : okC Tryz.f76.ntmps mo76 (Tryz.f76.body.getD .skip) = true := by kernel_rfl
theorem eq76 (a0 a1 : Value) (ret : Value → C) (pn : Pn) : D P mo76 lv76 pn (Tryz.f76.body.getD .skip) (finQ P Tryz.f76.results ret) (env0 [a0, a1]) = S76 a0 a1 ret pn := by kernel_rfl
theorem c76 {a0 a1 : Value} {R : Ending → World → Prop} {w : World} (h : S76 a0 a1 (fun v w => R (.returned v) w) (fun c w => R (.panicked c) w) w) : Calls P 76 #[a0, a1] w R :=
  callsD mixed mo76 lv76 Tryz.func76 rfl (Nat.le_of_ble_eq_true rfl) ok76 ((congrFun (eq76 a0 a1 _ _) w).mpr h)
theorem en76 (args : Array Value) (w : World) : (callFunc 76 args).run P w = .ok (.enter 76 args) w := by kernel_rfl

/-! ### (*evenhand / fold.folder).rule -/
def S77 (a0 a1 : Value) (ret : Value → C) (pn : Pn) : C :=
 nextS P (nilN a0) (fun x7_1 =>
 nextS P (V (Instr.fieldAt 162 x7_1 0)) (fun x8_2 =>
 nextS P (V (Instr.loadAt 36 x8_2)) (fun x9_3 =>
 nextS P (V (Instr.indexAt 36 x9_3 a1)) (fun x11_4 =>
 nextS P (V (Instr.loadAt 69 x11_4)) (fun x12_5 =>
 nextS P (V (Instr.alloc 69 true (.tuple #[]))) (fun x5_6 =>
 nextS P (U (Instr.storeAt 69 x5_6 x12_5)) (fun _ =>
 nextS P (V (Instr.fieldAt 69 x5_6 0)) (fun x14_8 =>
 nextS P (V (Instr.loadAt 3 x14_8)) (fun x15_9 =>
 nextS P (binN .eql 3 (Operand.tmp 15) (Operand.const (Value.int IntKind.i64 15)) x15_9 (Value.int IntKind.i64 15)) (fun x16_10 =>
 grdS x16_10 true (fun K => nextS P (V (Instr.fieldAt 69 x5_6 1)) K pn) fun x18_11 =>
 grdS x16_10 true (fun K => nextS P (V (Instr.loadAt 3 x18_11)) K pn) fun x19_12 =>
 grdS x16_10 true (fun K => K a1) fun x20_13 =>
 grdS x16_10 true (fun K => nextS P (binN .add 3 (Operand.tmp 20) (Operand.const (Value.int IntKind.i64 1)) x20_13 (Value.int IntKind.i64 1)) K pn) fun x21_14 =>
 grdS x16_10 true (fun K => nextS P (binN .eql 3 (Operand.tmp 19) (Operand.tmp 21) x19_12 x21_14) K pn) fun x22_15 =>
 nextS P (pickN x16_10 x22_15 (Value.bool false)) (fun x23_16 =>
 condS x23_16
 (callS P 92 #[a0, a1, (Value.int IntKind.i64 1), (Value.slice none 0 0)] (fun x26_17 =>
 ret (Value.bool true)) pn)
 (nextS P (V (Instr.fieldAt 69 x5_6 0)) (fun x28_18 =>
 nextS P (V (Instr.loadAt 3 x28_18)) (fun x29_19 =>
 nextS P (binN .eql 3 (Operand.tmp 29) (Operand.const (Value.int IntKind.i64 1)) x29_19 (Value.int IntKind.i64 1)) (fun x30_20 =>
 grdS x30_20 true (fun K => K a0) fun x32_21 =>
 grdS x30_20 true (fun K => K a1) fun x33_22 =>
 grdS x30_20 true (fun K => nextS P (binN .add 3 (Operand.tmp 33) (Operand.const (Value.int IntKind.i64 1)) x33_22 (Value.int IntKind.i64 1)) K pn) fun x34_23 =>
 grdS x30_20 true (fun K => callS P 93 #[x32_21, x34_23] K pn) fun x35_24 =>
 nextS P (pickN x30_20 x35_24 (Value.bool false)) (fun x36_25 =>
 condS x36_25
 (callS P 94 #[a0, a1] (fun x39_26 =>
 ret x39_26) pn)
 (ret (Value.bool false))) pn) pn) pn) pn)) pn) pn) pn) pn) pn) pn) pn) pn) pn) pn) pn
def mo77 : Nat → Mo := fun _ => .done
def lv77 : Nat → List Nat := fun _ => []
theorem ok77 : okC Tryz.f77.ntmps mo77 (Tryz.f77.body.getD .skip) = true := by kernel_rfl
theorem eq77 (a0 a1 : Value) (ret : Value → C) (pn : Pn) : D P mo77 lv77 pn (Tryz.f77.body.getD .skip) (finQ P Tryz.f77.results ret) (env0 [a0, a1]) = S77 a0 a1 ret pn := by kernel_rfl
theorem c77 {a0 a1 : Value} {R : Ending → World → Prop} {w : World} (h : S77 a0 a1 (fun v w => R (.returned v) w) (fun c w => R (.panicked c) w) w) : Calls P 77 #[a0, a1] w R :=
  callsD mixed mo77 lv77 Tryz.func77 rfl (Nat.le_of_ble_eq_true rfl) ok77 ((congrFun (eq77 a0 a1 _ _) w).mpr h)
theorem en77 (args : Array Value) (w : World) : (callFunc 77 args).run P w = .ok (.enter 77 args) w := by kernel_rfl

/-! ### evenhand / evenhandref01.Minus -/
def S78 (a0 a1 : Value) (ret : Value → C) (pn : Pn) : C :=
 nextS P (V (Op.unary .xor a1)) (fun x7_1 =>
 callS P 80 #[x7_1, (Value.int IntKind.u64 1)] (fun x8_2 =>
 callS P 80 #[a0, x8_2] (fun x9_3 =>
 ret x9_3) pn) pn) pn
def mo78 : Nat → Mo := fun _ => .done
def lv78 : Nat → List Nat := fun _ => []
theorem ok78 : okC Tryz.f78.ntmps mo78 (Tryz.f78.body.getD .skip) = true := by kernel_rfl
theorem eq78 (a0 a1 : Value) (ret : Value → C) (pn : Pn) : D P mo78 lv78 pn (Tryz.f78.body.getD .skip) (finQ P Tryz.f78.results ret) (env0 [a0, a1]) = S78 a0 a1 ret pn := by kernel_rfl
theorem c78 {a0 a1 : Value} {R : Ending → World → Prop} {w : World} (h : S78 a0 a1 (fun v w => R (.returned v) w) (fun c w => R (.panicked c) w) w) : Calls P 78 #[a0, a1] w R :=
  callsD mixed mo78 lv78 Tryz.func78 rfl (Nat.le_of_ble_eq_true rfl) ok78 ((congrFun (eq78 a0 a1 _ _) w).mpr h)
theorem en78 (args : Array Value) (w : World) : (callFunc 78 args).run P w = .ok (.enter 78 args) w := by kernel_rfl

/-! ### evenhand / evenhandref01.one -/
def S79 (a0 : Value) (ret : Value → C) (pn : Pn) : C :=
 condS a0
 (ret (Value.int IntKind.i64 1))
 (ret (Value.int IntKind.i64 0))
def mo79 : Nat → Mo := fun _ => .done
def lv79 : Nat → List Nat := fun _ => []
theorem ok79 : okC Tryz.f79.ntmps mo79 (Tryz.f79.body.getD .skip) = true := by kernel_rfl
theorem eq79 (a0 : Value) (ret : Value → C) (pn : Pn) : D P mo79 lv79 pn (Tryz.f79.body.getD .skip) (finQ P Tryz.f79.results ret) (env0 [a0]) = S79 a0 ret pn := by kernel_rfl
theorem c79 {a0 : Value} {R : Ending → World → Prop} {w : World} (h : S79 a0 (fun v w => R (.returned v) w) (fun c w => R (.panicked c) w) w) : Calls P 79 #[a0] w R :=
  callsD mixed mo79 lv79 Tryz.func79 rfl (Nat.le_of_ble_eq_true rfl) ok79 ((congrFun (eq79 a0 _ _) w).mpr h)
theorem en79 (args : Array Value) (w : World) : (callFunc 79 args).run P w = .ok (.enter 79 args) w := by kernel_rfl

/-! ### evenhand / evenhandref01.Plus -/
def S80_l1 (nx1 : List Value → C) (ret : Value → C) (pn : Pn) (e : Env) : C :=
 nextS P (binN .lss 3 (Operand.tmp 7) (Operand.const (Value.int IntKind.i64 64)) (e 5) (Value.int IntKind.i64 64)) (fun x8_1 =>
 condS x8_1
 (nextS P (binN .and 152 (Operand.tmp 11) (Operand.tmp 12) (e 0) (e 1)) (fun x13_2 =>
 nextS P (binN .xor 152 (Operand.tmp 14) (Operand.tmp 15) (e 0) (e 1)) (fun x16_3 =>
 nextS P (binN .shl 152 (Operand.tmp 17) (Operand.const (Value.int IntKind.u64 1)) x13_2 (Value.int IntKind.u64 1)) (fun x18_4 =>
 nextS P (binN .add 3 (Operand.tmp 9) (Operand.const (Value.int IntKind.i64 1)) (e 5) (Value.int IntKind.i64 1)) (fun x10_5 =>
 nx1 [x16_3, x18_4, x10_5]) pn) pn) pn) pn)
 (ret (e 0))) pn
def S80 (a0 a1 : Value) (ret : Value → C) (pn : Pn) : C :=
 LoopS [a0, a1, (Value.int IntKind.i64 0)] [0, 1, 5] fun nx1 e => S80_l1 nx1 ret pn e
def mo80 : Nat → Mo := fun _ => .done
def lv80 : Nat → List Nat
  | 2 => [0, 1, 5]
  | _ => []
theorem ok80 : okC Tryz.f80.ntmps mo80 (Tryz.f80.body.getD .skip) = true := by kernel_rfl
theorem eq80 (a0 a1 : Value) (ret : Value → C) (pn : Pn) : D P mo80 lv80 pn (Tryz.f80.body.getD .skip) (finQ P Tryz.f80.results ret) (env0 [a0, a1]) = S80 a0 a1 ret pn := by kernel_rfl
theorem c80 {a0 a1 : Value} {R : Ending → World → Prop} {w : World} (h : S80 a0 a1 (fun v w => R (.returned v) w) (fun c w => R (.panicked c) w) w) : Calls P 80 #[a0, a1] w R :=
  callsD mixed mo80 lv80 Tryz.func80 rfl (Nat.le_of_ble_eq_true rfl) ok80 ((congrFun (eq80 a0 a1 _ _) w).mpr h)
theorem en80 (args : Array Value) (w : World) : (callFunc 80 args).run P w = .ok (.enter 80 args) w := by kernel_rfl

/-! ### evenhand / evenhandref01.Times -/
def S81_k2 (nx1 : List Value → C) (ret : Value → C) (pn : Pn) (y0 y1 y5 y6 : Value) : C :=
 nextS P (binN .add 3 (Operand.tmp 9) (Operand.const (Value.int IntKind.i64 1)) y6 (Value.int IntKind.i64 1)) (fun x10_9 =>
 nx1 [y0, y1, y5, x10_9]) pn
def S81_l1 (nx1 : List Value → C) (ret : Value → C) (pn : Pn) (e : Env) : C :=
 nextS P (binN .lss 3 (Operand.tmp 7) (Operand.const (Value.int IntKind.i64 64)) (e 6) (Value.int IntKind.i64 64)) (fun x8_1 =>
 condS x8_1
 (nextS P (V (convert 3 174 (e 6))) (fun x13_2 =>
 nextS P (binN .shr 152 (Operand.tmp 11) (Operand.tmp 13) (e 1) x13_2) (fun x14_3 =>
 nextS P (binN .and 152 (Operand.tmp 14) (Operand.const (Value.int IntKind.u64 1)) x14_3 (Value.int IntKind.u64 1)) (fun x15_4 =>
 nextS P (binN .eql 152 (Operand.tmp 15) (Operand.const (Value.int IntKind.u64 1)) x15_4 (Value.int IntKind.u64 1)) (fun x16_5 =>
 condS x16_5
 (nextS P (V (convert 3 174 (e 6))) (fun x20_6 =>
 nextS P (binN .shl 152 (Operand.tmp 18) (Operand.tmp 20) (e 0) x20_6) (fun x21_7 =>
 callS P 80 #[(e 5), x21_7] (fun x22_8 =>
 S81_k2 nx1 ret pn (e 0) (e 1) x22_8 (e 6)) pn) pn) pn)
 (S81_k2 nx1 ret pn (e 0) (e 1) (e 5) (e 6))) pn) pn) pn) pn)
 (ret (e 5))) pn
def S81 (a0 a1 : Value) (ret : Value → C) (pn : Pn) : C :=
 LoopS [a0, a1, (Value.int IntKind.u64 0), (Value.int IntKind.i64 0)] [0, 1, 5, 6] fun nx1 e => S81_l1 nx1 ret pn e
def mo81 : Nat → Mo := fun _ => .done
def lv81 : Nat → List Nat
  | 3 => [0, 1, 5, 6]
  | _ => []
theorem ok81 : okC Tryz.f81.ntmps mo81 (Tryz.f81.body.getD .skip) = true := by kernel_rfl
theorem eq81 (a0 a1 : Value) (ret : Value → C) (pn : Pn) : D P mo81 lv81 pn (Tryz.f81.body.getD .skip) (finQ P Tryz.f81.results ret) (env0 [a0, a1]) = S81 a0 a1 ret pn := by kernel_rfl
theorem c81 {a0 a1 : Value} {R : Ending → World → Prop} {w : World} (h : S81 a0 a1 (fun v w => R (.returned v) w) (fun c w => R (.panicked c) w) w) : Calls P 81 #[a0, a1] w R :=
  callsD mixed mo81 lv81 Tryz.func81 rfl (Nat.le_of_ble_eq_true rfl) ok81 ((congrFun (eq81 a0 a1 _ _) w).mpr h)
theorem en81 (args : Array Value) (w : World) : (callFunc 81 args).run P w = .ok (.enter 81 args) w := by kernel_rfl

/-! ### evenhand / evenhandref01.size -/
def S82 (a0 : Value) (ret : Value → C) (pn : Pn) : C :=
 nextS P (binN .lss 2 (Operand.tmp 4) (Operand.const (Value.int IntKind.i64 0)) a0 (Value.int IntKind.i64 0)) (fun x5_1 =>
 condS x5_1
 (nextS P (V (convert 2 152 a0)) (fun x7_2 =>
 callS P 78 #[(Value.int IntKind.u64 0), x7_2] (fun x8_3 =>
 ret (.tuple #[x8_3, (Value.bool true)])) pn) pn)
 (nextS P (V (convert 2 152 a0)) (fun x10_4 =>
 ret (.tuple #[x10_4, (Value.bool false)])) pn)) pn
def mo82 : Nat → Mo := fun _ => .done
def lv82 : Nat → List Nat := fun _ => []
theorem ok82 : okC Tryz.f82.ntmps mo82 (Tryz.f82.body.getD .skip) = true := by kernel_rfl
theorem eq82 (a0 : Value) (ret : Value → C) (pn : Pn) : D P mo82 lv82 pn (Tryz.f82.body.getD .skip) (finQ P Tryz.f82.results ret) (env0 [a0]) = S82 a0 ret pn := by kernel_rfl
theorem c82 {a0 : Value} {R : Ending → World → Prop} {w : World} (h : S82 a0 (fun v w => R (.returned v) w) (fun c w => R (.panicked c) w) w) : Calls P 82 #[a0] w R :=
  callsD mixed mo82 lv82 Tryz.func82 rfl (Nat.le_of_ble_eq_true rfl) ok82 ((congrFun (eq82 a0 _ _) w).mpr h)
theorem en82 (args : Array Value) (w : World) : (callFunc 82 args).run P w = .ok (.enter 82 args) w := by kernel_rfl

/-! ### evenhand / evenhandref01.parted -/
def S83_k2 (nx1 : List Value → C) (ret : Value → C) (pn : Pn) (y0 y1 y6 y7 y8 : Value) : C :=
 nextS P (binN .sub 3 (Operand.tmp 12) (Operand.const (Value.int IntKind.i64 1)) y8 (Value.int IntKind.i64 1)) (fun x13_16 =>
 nx1 [y0, y1, y6, y7, x13_16]) pn
def S83_l1 (nx1 : List Value → C) (ret : Value → C) (pn : Pn) (e : Env) : C :=
 nextS P (binN .geq 3 (Operand.tmp 10) (Operand.const (Value.int IntKind.i64 0)) (e 8) (Value.int IntKind.i64 0)) (fun x11_1 =>
 condS x11_1
 (nextS P (binN .shr 152 (Operand.tmp 14) (Operand.const (Value.int IntKind.u64 63)) (e 7) (Value.int IntKind.u64 63)) (fun x15_2 =>
 nextS P (binN .eql 152 (Operand.tmp 15) (Operand.const (Value.int IntKind.u64 1)) x15_2 (Value.int IntKind.u64 1)) (fun x16_3 =>
 nextS P (binN .shl 152 (Operand.tmp 17) (Operand.const (Value.int IntKind.u64 1)) (e 7) (Value.int IntKind.u64 1)) (fun x18_4 =>
 nextS P (V (convert 3 174 (e 8))) (fun x21_5 =>
 nextS P (binN .shr 152 (Operand.tmp 19) (Operand.tmp 21) (e 0) x21_5) (fun x22_6 =>
 nextS P (binN .and 152 (Operand.tmp 22) (Operand.const (Value.int IntKind.u64 1)) x22_6 (Value.int IntKind.u64 1)) (fun x23_7 =>
 nextS P (binN .or 152 (Operand.tmp 18) (Operand.tmp 23) x18_4 x23_7) (fun x24_8 =>
 nextS P (binN .shl 152 (Operand.tmp 25) (Operand.const (Value.int IntKind.u64 1)) (e 6) (Value.int IntKind.u64 1)) (fun x26_9 =>
 grdS x16_3 false (fun K => K x24_8) fun x29_10 =>
 grdS x16_3 false (fun K => K (e 1)) fun x30_11 =>
 grdS x16_3 false (fun K => nextS P (binN .geq 152 (Operand.tmp 29) (Operand.tmp 30) x29_10 x30_11) K pn) fun x31_12 =>
 nextS P (pickN x16_3 (Value.bool true) x31_12) (fun x32_13 =>
 condS x32_13
 (nextS P (binN .sub 152 (Operand.tmp 33) (Operand.tmp 34) x24_8 (e 1)) (fun x35_14 =>
 nextS P (binN .or 152 (Operand.tmp 36) (Operand.const (Value.int IntKind.u64 1)) x26_9 (Value.int IntKind.u64 1)) (fun x37_15 =>
 S83_k2 nx1 ret pn (e 0) (e 1) x37_15 x35_14 (e 8)) pn) pn)
 (S83_k2 nx1 ret pn (e 0) (e 1) x26_9 x24_8 (e 8))) pn) pn) pn) pn) pn) pn) pn) pn) pn)
 (ret (.tuple #[(e 6), (e 7)]))) pn
def S83 (a0 a1 : Value) (ret : Value → C) (pn : Pn) : C :=
 LoopS [a0, a1, (Value.int IntKind.u64 0), (Value.int IntKind.u64 0), (Value.int IntKind.i64 63)] [0, 1, 6, 7, 8] fun nx1 e => S83_l1 nx1 ret pn e
def mo83 : Nat → Mo := fun _ => .done
def lv83 : Nat → List Nat
  | 4 => [0, 1, 6, 7, 8]
  | _ => []
theorem ok83 : okC Tryz.f83.ntmps mo83 (Tryz.f83.body.getD .skip) = true := by kernel_rfl
theorem eq83 (a0 a1 : Value) (ret : Value → C) (pn : Pn) : D P mo83 lv83 pn (Tryz.f83.body.getD .skip) (finQ P Tryz.f83.results ret) (env0 [a0, a1]) = S83 a0 a1 ret pn := by kernel_rfl
theorem c83 {a0 a1 : Value} {R : Ending → World → Prop} {w : World} (h : S83 a0 a1 (fun v w => R (.returned v) w) (fun c w => R (.panicked c) w) w) : Calls P 83 #[a0, a1] w R :=
  callsD mixed mo83 lv83 Tryz.func83 rfl (Nat.le_of_ble_eq_true rfl) ok83 ((congrFun (eq83 a0 a1 _ _) w).mpr h)
theorem en83 (args : Array Value) (w : World) : (callFunc 83 args).run P w = .ok (.enter 83 args) w := by kernel_rfl

/-! ### evenhand / evenhandref01.signed -/
def S84 (a0 a1 : Value) (ret : Value → C) (pn : Pn) : C :=
 condS a1
 (callS P 78 #[(Value.int IntKind.u64 0), a0] (fun x7_1 =>
 nextS P (V (convert 152 2 x7_1)) (fun x8_2 =>
 ret x8_2) pn) pn)
 (nextS P (V (convert 152 2 a0)) (fun x10_3 =>
 ret x10_3) pn)
def mo84 : Nat → Mo := fun _ => .done
def lv84 : Nat → List Nat := fun _ => []
theorem ok84 : okC Tryz.f84.ntmps mo84 (Tryz.f84.body.getD .skip) = true := by kernel_rfl
theorem eq84 (a0 a1 : Value) (ret : Value → C) (pn : Pn) : D P mo84 lv84 pn (Tryz.f84.body.getD .skip) (finQ P Tryz.f84.results ret) (env0 [a0, a1]) = S84 a0 a1 ret pn := by kernel_rfl
theorem c84 {a0 a1 : Value} {R : Ending → World → Prop} {w : World} (h : S84 a0 a1 (fun v w => R (.returned v) w) (fun c w => R (.panicked c) w) w) : Calls P 84 #[a0, a1] w R :=
  callsD mixed mo84 lv84 Tryz.func84 rfl (Nat.le_of_ble_eq_true rfl) ok84 ((congrFun (eq84 a0 a1 _ _) w).mpr h)
theorem en84 (args : Array Value) (w : World) : (callFunc 84 args).run P w = .ok (.enter 84 args) w := by kernel_rfl

/-! ### slices.IndexFunc[[]evenhand / code.Ins,evenhand / code.Ins] -/
def S91_l1 (nx1 : List Value → C) (ret : Value → C) (pn : Pn) (e : Env) : C :=
 nextS P (binN .lss 3 (Operand.tmp 8) (Operand.tmp 7) (e 8) (e 7)) (fun x9_2 =>
 condS x9_2
 (nextS P (V (Instr.indexAt 36 (e 0) (e 8))) (fun x14_3 =>
 nextS P (V (Instr.loadAt 69 x14_3)) (fun x15_4 =>
 nextS P (callVN (e 1) #[x15_4]) (fun x16_5 =>
 condS x16_5
 (ret (e 8))
 (nextS P (binN .add 3 (Operand.tmp 8) (Operand.const (Value.int IntKind.i64 1)) (e 8) (Value.int IntKind.i64 1)) (fun x18_6 =>
 nx1 [(e 0), (e 1), (e 7), x18_6]) pn)) pn) pn) pn)
 (ret (Value.int IntKind.i64 (-1)))) pn
def S91 (a0 a1 : Value) (ret : Value → C) (pn : Pn) : C :=
 nextS P (bltN .len #[36] 3 #[false] #[a0]) (fun x7_1 =>
 LoopS [a0, a1, x7_1, (Value.int IntKind.i64 0)] [0, 1, 7, 8] fun nx1 e => S91_l1 nx1 ret pn e) pn
def mo91 : Nat → Mo := fun _ => .done
def lv91 : Nat → List Nat
  | 2 => [0, 1, 7, 8]
  | _ => []
theorem ok91 : okC Tryz.f91.ntmps mo91 (Tryz.f91.body.getD .skip) = true := by kernel_rfl
theorem eq91 (a0 a1 : Value) (ret : Value → C) (pn : Pn) : D P mo91 lv91 pn (Tryz.f91.body.getD .skip) (finQ P Tryz.f91.results ret) (env0 [a0, a1]) = S91 a0 a1 ret pn := by kernel_rfl
theorem c91 {a0 a1 : Value} {R : Ending → World → Prop} {w : World} (h : S91 a0 a1 (fun v w => R (.returned v) w) (fun c w => R (.panicked c) w) w) : Calls P 91 #[a0, a1] w R :=
  callsD mixed mo91 lv91 Tryz.func91 rfl (Nat.le_of_ble_eq_true rfl) ok91 ((congrFun (eq91 a0 a1 _ _) w).mpr h)
theorem en91 (args : Array Value) (w : World) : (callFunc 91 args).run P w = .ok (.enter 91 args) w := by kernel_rfl

/-! ### (*evenhand / fold.folder).replace -/
def S92_k2 (nx1 : List Value → C) (ret : Value → C) (pn : Pn) (y0 y1 y2 y3 y27 y28 : Value) : C :=
 nextS P (binN .add 3 (Operand.tmp 28) (Operand.const (Value.int IntKind.i64 1)) y28 (Value.int IntKind.i64 1)) (fun x66_40 =>
 nx1 [y0, y1, y2, y3, y27, x66_40]) pn
def S92_l1 (nx1 : List Value → C) (ret : Value → C) (pn : Pn) (e : Env) : C :=
 nextS P (binN .lss 3 (Operand.tmp 28) (Operand.tmp 27) (e 28) (e 27)) (fun x29_13 =>
 condS x29_13
 (nextS P (nilN (e 0)) (fun x32_14 =>
 nextS P (V (Instr.fieldAt 162 x32_14 0)) (fun x33_15 =>
 nextS P (V (Instr.loadAt 36 x33_15)) (fun x34_16 =>
 nextS P (V (Instr.indexAt 36 x34_16 (e 28))) (fun x36_17 =>
 nextS P (nilN x36_17) (fun x38_18 =>
 nextS P (V (Instr.loadAt 69 x38_18)) (fun x39_19 =>
 callS P 98 #[x39_19] (fun x40_20 =>
 grdS x40_20 true (fun K => K x36_17) fun x42_21 =>
 grdS x40_20 true (fun K => nextS P (nilN x42_21) K pn) fun x43_22 =>
 grdS x40_20 true (fun K => nextS P (V (Instr.fieldAt 69 x43_22 1)) K pn) fun x44_23 =>
 grdS x40_20 true (fun K => nextS P (V (Instr.loadAt 3 x44_23)) K pn) fun x45_24 =>
 grdS x40_20 true (fun K => K (e 1)) fun x46_25 =>
 grdS x40_20 true (fun K => nextS P (binN .gtr 3 (Operand.tmp 45) (Operand.tmp 46) x45_24 x46_25) K pn) fun x47_26 =>
 nextS P (pickN x40_20 x47_26 (Value.bool false)) (fun x48_27 =>
 condS x48_27
 (nextS P (nilN x36_17) (fun x51_28 =>
 nextS P (V (Instr.fieldAt 69 x51_28 1)) (fun x52_29 =>
 nextS P (V (Instr.loadAt 3 x52_29)) (fun x53_30 =>
 nextS P (binN .sub 3 (Operand.tmp 53) (Operand.tmp 54) x53_30 (e 2)) (fun x55_31 =>
 nextS P (bltN .len #[36] 3 #[false] #[(e 3)]) (fun x57_32 =>
 nextS P (binN .add 3 (Operand.tmp 55) (Operand.tmp 57) x55_31 x57_32) (fun x58_33 =>
 nextS P (bltN .len #[36] 3 #[false] #[(e 3)]) (fun x61_34 =>
 nextS P (binN .add 3 (Operand.tmp 59) (Operand.tmp 61) (e 1) x61_34) (fun x62_35 =>
 nextS P (bltN .max #[3, 3] 3 #[false, false] #[x58_33, x62_35]) (fun x63_36 =>
 nextS P (nilN x36_17) (fun x64_37 =>
 nextS P (V (Instr.fieldAt 69 x64_37 1)) (fun x65_38 =>
 nextS P (U (Instr.storeAt 3 x65_38 x63_36)) (fun _ =>
 S92_k2 nx1 ret pn (e 0) (e 1) (e 2) (e 3) (e 27) (e 28)) pn) pn) pn) pn) pn) pn) pn) pn) pn) pn) pn) pn)
 (S92_k2 nx1 ret pn (e 0) (e 1) (e 2) (e 3) (e 27) (e 28))) pn) pn) pn) pn) pn) pn) pn) pn)
 (ret (.tuple #[]))) pn
def S92 (a0 a1 a2 a3 : Value) (ret : Value → C) (pn : Pn) : C :=
 nextS P (nilN a0) (fun x12_1 =>
 nextS P (V (Instr.fieldAt 162 x12_1 0)) (fun x13_2 =>
 nextS P (V (Instr.loadAt 36 x13_2)) (fun x14_3 =>
 nextS P (binN .add 3 (Operand.tmp 16) (Operand.tmp 17) a1 a2) (fun x18_4 =>
 callS P 97 #[x14_3, a1, x18_4, a3] (fun x20_5 =>
 nextS P (nilN a0) (fun x21_6 =>
 nextS P (V (Instr.fieldAt 162 x21_6 0)) (fun x22_7 =>
 nextS P (U (Instr.storeAt 36 x22_7 x20_5)) (fun _ =>
 nextS P (nilN a0) (fun x24_9 =>
 nextS P (V (Instr.fieldAt 162 x24_9 0)) (fun x25_10 =>
 nextS P (V (Instr.loadAt 36 x25_10)) (fun x26_11 =>
 nextS P (bltN .len #[36] 3 #[false] #[x26_11]) (fun x27_12 =>
 LoopS [a0, a1, a2, a3, x27_12, (Value.int IntKind.i64 0)] [0, 1, 2, 3, 27, 28] fun nx1 e => S92_l1 nx1 ret pn e) pn) pn) pn) pn) pn) pn) pn) pn) pn) pn) pn) pn
def mo92 : Nat → Mo := fun _ => .done
def lv92 : Nat → List Nat
  | 2 => [0, 1, 2, 3, 27, 28]
  | _ => []
theorem ok92 : okC Tryz.f92.ntmps mo92 (Tryz.f92.body.getD .skip) = true := by kernel_rfl
theorem eq92 (a0 a1 a2 a3 : Value) (ret : Value → C) (pn : Pn) : D P mo92 lv92 pn (Tryz.f92.body.getD .skip) (finQ P Tryz.f92.results ret) (env0 [a0, a1, a2, a3]) = S92 a0 a1 a2 a3 ret pn := by kernel_rfl
theorem c92 {a0 a1 a2 a3 : Value} {R : Ending → World → Prop} {w : World} (h : S92 a0 a1 a2 a3 (fun v w => R (.returned v) w) (fun c w => R (.panicked c) w) w) : Calls P 92 #[a0, a1, a2, a3] w R :=
  callsD mixed mo92 lv92 Tryz.func92 rfl (Nat.le_of_ble_eq_true rfl) ok92 ((congrFun (eq92 a0 a1 a2 a3 _ _) w).mpr h)
theorem en92 (args : Array Value) (w : World) : (callFunc 92 args).run P w = .ok (.enter 92 args) w := by kernel_rfl

/-! ### (*evenhand / fold.folder).free -/
def S93 (a0 a1 : Value) (ret : Value → C) (pn : Pn) : C :=
 nextS P (V (Instr.box 3 a1)) (fun x3_1 =>
 DrawS fun S =>
 takeS S P (V (Instr.loadAt 3 x3_1)) fun x5_2 =>
 pureS P (nilN a0) fun x7_3 =>
 pureS P (V (Instr.fieldAt 162 x7_3 0)) fun x8_4 =>
 takeS S P (V (Instr.loadAt 36 x8_4)) fun x9_5 =>
 takeS S P (bltN .len #[36] 3 #[false] #[x9_5]) fun x10_6 =>
 pureS P (binN .lss 3 (Operand.tmp 5) (Operand.tmp 10) x5_2 x10_6) fun x11_7 =>
 grdS x11_7 true (fun K => K a0) fun x13_8 =>
 grdS x11_7 true (pureS P (nilN x13_8)) fun x14_9 =>
 grdS x11_7 true (pureS P (V (Instr.fieldAt 162 x14_9 0))) fun x15_10 =>
 grdS x11_7 true (takeS S P (V (Instr.loadAt 36 x15_10))) fun x16_11 =>
 grdS x11_7 true (pureS P (V (Instr.makeFunc (Fn.func 99) #[] #[x3_1]))) fun x17_12 =>
 grdS x11_7 true (fun K => callS P 74 #[x16_11, x17_12] K pn) fun x18_13 w => S w ∧ (grdS x11_7 true (pureS P (V (Op.unary .not x18_13))) fun x19_14 =>
 pureS P (pickN x11_7 x19_14 (Value.bool false)) fun x20_15 =>
 ret x20_15) w) pn
def mo93 : Nat → Mo
  | 1 => (Mo.take 0 (Mo.take 1 (Mo.take 2 (Mo.take 3 (Mo.take 4 (Mo.take 5 (Mo.take 6 (Mo.take 7 (Mo.take 8 (Mo.take 9 (Mo.take 10 (Mo.take 11 (Mo.take 12 (Mo.eff 13 (Mo.take 14 (Mo.take 15 (Mo.take 16 Mo.done)))))))))))))))))
  | _ => .done
def lv93 : Nat → List Nat := fun _ => []
theorem ok93 : okC Tryz.f93.ntmps mo93 (Tryz.f93.body.getD .skip) = true := by kernel_rfl
theorem eq93 (a0 a1 : Value) (ret : Value → C) (pn : Pn) : D P mo93 lv93 pn (Tryz.f93.body.getD .skip) (finQ P Tryz.f93.results ret) (env0 [a0, a1]) = S93 a0 a1 ret pn := by kernel_rfl
theorem c93 {a0 a1 : Value} {R : Ending → World → Prop} {w : World} (h : S93 a0 a1 (fun v w => R (.returned v) w) (fun c w => R (.panicked c) w) w) : Calls P 93 #[a0, a1] w R :=
  callsD mixed mo93 lv93 Tryz.func93 rfl (Nat.le_of_ble_eq_true rfl) ok93 ((congrFun (eq93 a0 a1 _ _) w).mpr h)
theorem en93 (args : Array Value) (w : World) : (callFunc 93 args).run P w = .ok (.enter 93 args) w := by kernel_rfl

/-! ### (*evenhand / fold.folder).behind -/
def S94_k1 (ret : Value → C) (pn : Pn) (y11 : Value) : C :=
 ret y11
def S94 (a0 a1 : Value) (ret : Value → C) (pn : Pn) : C :=
 DrawS fun S =>
 pureS P (nilN a0) fun x13_1 =>
 pureS P (V (Instr.fieldAt 162 x13_1 0)) fun x14_2 =>
 takeS S P (V (Instr.loadAt 36 x14_2)) fun x15_3 =>
 pureS P (V (Instr.indexAt 36 x15_3 a1)) fun x17_4 =>
 pureS P (V (Instr.fieldAt 69 x17_4 2)) fun x18_5 =>
 takeS S P (V (Instr.loadAt 2 x18_5)) fun x19_6 =>
 pureS P (nilN a0) fun x21_7 =>
 pureS P (V (Instr.fieldAt 162 x21_7 0)) fun x22_8 =>
 takeS S P (V (Instr.loadAt 36 x22_8)) fun x23_9 =>
 pureS P (binN .add 3 (Operand.tmp 24) (Operand.const (Value.int IntKind.i64 1)) a1 (Value.int IntKind.i64 1)) fun x25_10 =>
 pureS P (V (Instr.indexAt 36 x23_9 x25_10)) fun x26_11 =>
 takeS S P (V (Instr.loadAt 69 x26_11)) fun x27_12 =>
 nextS P (V (Instr.alloc 69 true (.tuple #[]))) (fun x6_13 w => S w ∧ (nextS P (U (Instr.storeAt 69 x6_13 x27_12)) (fun _ w => S w ∧ (nextS P (V (Instr.fieldAt 69 x6_13 0)) (fun x29_15 =>
 nextS P (V (Instr.loadAt 3 x29_15)) (fun x30_16 =>
 nextS P (binN .eql 3 (Operand.tmp 30) (Operand.const (Value.int IntKind.i64 4)) x30_16 (Value.int IntKind.i64 4)) (fun x31_17 =>
 grdS x31_17 false (fun K => nextS P (V (Instr.fieldAt 69 x6_13 0)) K pn) fun x33_18 =>
 grdS x31_17 false (fun K => nextS P (V (Instr.loadAt 3 x33_18)) K pn) fun x34_19 =>
 grdS x31_17 false (fun K => nextS P (binN .eql 3 (Operand.tmp 34) (Operand.const (Value.int IntKind.i64 5)) x34_19 (Value.int IntKind.i64 5)) K pn) fun x35_20 =>
 nextS P (pickN x31_17 (Value.bool true) x35_20) (fun x36_21 =>
 condS x36_21
 (nextS P (V (Instr.fieldAt 69 x6_13 0)) (fun x38_22 =>
 nextS P (V (Instr.loadAt 3 x38_22)) (fun x39_23 =>
 callS P 100 #[x39_23, x19_6, (Value.int IntKind.i64 0)] (fun x41_24 =>
 nextS P (V (Instr.extract x41_24 0)) (fun x42_25 =>
 nextS P (V (Instr.extract x41_24 1)) (fun x43_26 =>
 callS P 101 #[x42_25] (fun x47_27 =>
 nextS P (V (Instr.buildSlice 36 1 #[(0, x47_27)])) (fun x48_28 =>
 callS P 92 #[a0, a1, (Value.int IntKind.i64 2), x48_28] (fun x49_29 =>
 ret (Value.bool true)) pn) pn) pn) pn) pn) pn) pn) pn)
 (nextS P (V (Instr.fieldAt 69 x6_13 0)) (fun x51_30 =>
 nextS P (V (Instr.loadAt 3 x51_30)) (fun x52_31 =>
 nextS P (binN .eql 3 (Operand.tmp 52) (Operand.const (Value.int IntKind.i64 16)) x52_31 (Value.int IntKind.i64 16)) (fun x53_32 =>
 grdS x53_32 true (fun K => K x19_6) fun x55_33 =>
 grdS x53_32 true (fun K => nextS P (binN .eql 2 (Operand.tmp 55) (Operand.const (Value.int IntKind.i64 0)) x55_33 (Value.int IntKind.i64 0)) K pn) fun x56_34 =>
 nextS P (pickN x53_32 x56_34 (Value.bool false)) (fun x57_35 =>
 condS x57_35
 (nextS P (V (Instr.fieldAt 69 x6_13 1)) (fun x60_36 =>
 nextS P (V (Instr.loadAt 3 x60_36)) (fun x61_37 =>
 nextS P (V (Instr.build 69 #[(0, (Value.int IntKind.i64 15)), (1, x61_37)])) (fun x62_38 =>
 nextS P (V (Instr.buildSlice 36 1 #[(0, x62_38)])) (fun x63_39 =>
 callS P 92 #[a0, a1, (Value.int IntKind.i64 2), x63_39] (fun x64_40 =>
 ret (Value.bool true)) pn) pn) pn) pn) pn)
 (nextS P (V (Instr.fieldAt 69 x6_13 0)) (fun x66_41 =>
 nextS P (V (Instr.loadAt 3 x66_41)) (fun x67_42 =>
 nextS P (binN .eql 3 (Operand.tmp 67) (Operand.const (Value.int IntKind.i64 16)) x67_42 (Value.int IntKind.i64 16)) (fun x68_43 =>
 condS x68_43
 (callS P 92 #[a0, a1, (Value.int IntKind.i64 2), (Value.slice none 0 0)] (fun x71_44 =>
 ret (Value.bool true)) pn)
 (nextS P (V (Instr.fieldAt 69 x6_13 0)) (fun x73_45 =>
 nextS P (V (Instr.loadAt 3 x73_45)) (fun x74_46 =>
 nextS P (binN .neq 3 (Operand.tmp 74) (Operand.const (Value.int IntKind.i64 1)) x74_46 (Value.int IntKind.i64 1)) (fun x75_47 =>
 grdS x75_47 false (fun K => K a0) fun x77_48 =>
 grdS x75_47 false (fun K => K a1) fun x78_49 =>
 grdS x75_47 false (fun K => nextS P (binN .add 3 (Operand.tmp 78) (Operand.const (Value.int IntKind.i64 2)) x78_49 (Value.int IntKind.i64 2)) K pn) fun x79_50 =>
 grdS x75_47 false (fun K => callS P 93 #[x77_48, x79_50] K pn) fun x80_51 =>
 grdS x75_47 false (fun K => nextS P (V (Op.unary .not x80_51)) K pn) fun x81_52 =>
 nextS P (pickN x75_47 (Value.bool true) x81_52) (fun x82_53 =>
 condS x82_53
 (ret (Value.bool false))
 (nextS P (nilN a0) (fun x84_54 =>
 nextS P (V (Instr.fieldAt 162 x84_54 0)) (fun x85_55 =>
 nextS P (V (Instr.loadAt 36 x85_55)) (fun x86_56 =>
 nextS P (binN .add 3 (Operand.tmp 87) (Operand.const (Value.int IntKind.i64 2)) a1 (Value.int IntKind.i64 2)) (fun x88_57 =>
 nextS P (V (Instr.indexAt 36 x86_56 x88_57)) (fun x89_58 =>
 nextS P (V (Instr.fieldAt 69 x89_58 0)) (fun x90_59 =>
 nextS P (V (Instr.loadAt 3 x90_59)) (fun x91_60 =>
 nextS P (binN .lss 3 (Operand.tmp 92) (Operand.const (Value.int IntKind.i64 6)) x91_60 (Value.int IntKind.i64 6)) (fun x93_61 =>
 grdS x93_61 false (fun K => K x91_60) fun x95_62 =>
 grdS x93_61 false (fun K => nextS P (binN .gtr 3 (Operand.tmp 95) (Operand.const (Value.int IntKind.i64 14)) x95_62 (Value.int IntKind.i64 14)) K pn) fun x96_63 =>
 nextS P (pickN x93_61 (Value.bool true) x96_63) (fun x97_64 =>
 condS x97_64
 (ret (Value.bool false))
 (nextS P (V (Instr.fieldAt 69 x6_13 2)) (fun x101_65 =>
 nextS P (V (Instr.loadAt 2 x101_65)) (fun x102_66 =>
 callS P 100 #[x91_60, x19_6, x102_66] (fun x103_67 =>
 nextS P (V (Instr.extract x103_67 0)) (fun x104_68 =>
 nextS P (V (Instr.extract x103_67 1)) (fun x105_69 =>
 condS x105_69
 (callS P 101 #[x104_68] (fun x110_70 =>
 nextS P (V (Instr.buildSlice 36 1 #[(0, x110_70)])) (fun x111_71 =>
 callS P 92 #[a0, a1, (Value.int IntKind.i64 3), x111_71] (fun x112_72 =>
 S94_k1 ret pn x105_69) pn) pn) pn)
 (S94_k1 ret pn x105_69)) pn) pn) pn) pn) pn)) pn) pn) pn) pn) pn) pn) pn) pn) pn)) pn) pn) pn) pn)) pn) pn) pn)) pn) pn) pn) pn)) pn) pn) pn) pn) w) pn) w) pn
def mo94 : Nat → Mo
  | 1 => (Mo.take 0 (Mo.take 1 (Mo.take 2 (Mo.take 3 (Mo.take 4 (Mo.take 5 (Mo.take 6 (Mo.take 7 (Mo.take 8 (Mo.take 9 (Mo.take 10 (Mo.take 11 (Mo.take 12 (Mo.take 13 (Mo.take 14 (Mo.take 15 (Mo.eff 16 (Mo.take 17 (Mo.eff 18 Mo.done)))))))))))))))))))
  | _ => .done
def lv94 : Nat → List Nat := fun _ => []
theorem ok94 : okC Tryz.f94.ntmps mo94 (Tryz.f94.body.getD .skip) = true := by kernel_rfl
theorem eq94 (a0 a1 : Value) (ret : Value → C) (pn : Pn) : D P mo94 lv94 pn (Tryz.f94.body.getD .skip) (finQ P Tryz.f94.results ret) (env0 [a0, a1]) = S94 a0 a1 ret pn := by kernel_rfl
theorem c94 {a0 a1 : Value} {R : Ending → World → Prop} {w : World} (h : S94 a0 a1 (fun v w => R (.returned v) w) (fun c w => R (.panicked c) w) w) : Calls P 94 #[a0, a1] w R :=
  callsD mixed mo94 lv94 Tryz.func94 rfl (Nat.le_of_ble_eq_true rfl) ok94 ((congrFun (eq94 a0 a1 _ _) w).mpr h)
theorem en94 (args : Array Value) (w : World) : (callFunc 94 args).run P w = .ok (.enter 94 args) w := by kernel_rfl

end Go.Proofs.YtkonigmefmgepaaGreatDoor
