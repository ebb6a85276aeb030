/- The shallow forms of the loaded functions, written by wip/gen.py out of the print of the loaded program: no idea stands in it. -/
import Derived.Test.YtkonigmefmgepaaDoorS0
import Derived.Test.YtkonigmefmgepaaDoorProg
namespace Go.Proofs.YtkonigmefmgepaaDoor
set_option maxRecDepth 100000
set_option linter.unusedVariables false
/-! ### (evenhand / code.Ins).line -/
def S32_k2 (ret : Value → C) (pn : Pn) (y5 : Value) : C :=
 callS P 47 #[y5, (Value.string { data := #[32] })] (fun x37_29 =>
 nextS P (binN .add 9 (Operand.tmp 37) (Operand.const (Value.string { data := #[10] })) x37_29 (Value.string { data := #[10] })) (fun x38_30 =>
 ret x38_30) pn) pn
def S32_k1 (ret : Value → C) (pn : Pn) (y2 y5 : Value) : C :=
 nextS P (V (Instr.fieldAt 51 y2 0)) (fun x24_18 =>
 nextS P (V (Instr.loadAt 3 x24_18)) (fun x25_19 =>
 callS P 45 #[x25_19] (fun x26_20 =>
 nextS P (V (Instr.field 110 x26_20 4)) (fun x27_21 =>
 nextS P (binN .and 3 (Operand.tmp 27) (Operand.const (Value.int IntKind.i64 2)) x27_21 (Value.int IntKind.i64 2)) (fun x28_22 =>
 nextS P (binN .neq 3 (Operand.tmp 28) (Operand.const (Value.int IntKind.i64 0)) x28_22 (Value.int IntKind.i64 0)) (fun x29_23 =>
 condS x29_23
 (nextS P (V (Instr.fieldAt 51 y2 2)) (fun x31_24 =>
 nextS P (V (Instr.loadAt 2 x31_24)) (fun x32_25 =>
 callS P 46 #[x32_25, (Value.int IntKind.i64 10)] (fun x33_26 =>
 nextS P (V (Instr.buildSlice 108 1 #[(0, x33_26)])) (fun x34_27 =>
 nextS P (bltN .append #[108, 108] 108 #[false, false] #[y5, x34_27]) (fun x35_28 =>
 S32_k2 ret pn x35_28) pn) pn) pn) pn) pn)
 (S32_k2 ret pn y5)) pn) pn) pn) pn) pn) pn
def S32 (a0 a1 : Value) (ret : Value → C) (pn : Pn) : C :=
 nextS P (V (Instr.box 51 a0)) (fun x2_1 =>
 DrawS fun S =>
 pureS P (V (Instr.fieldAt 51 x2_1 0)) fun x8_2 =>
 takeS S P (V (Instr.loadAt 3 x8_2)) fun x9_3 =>
 callS P 43 #[a1] (fun x7_4 w => S w ∧ (callS P 44 #[x9_3] (fun x10_5 w => S w ∧ (nextS P (V (Instr.buildSlice 108 2 #[(0, x7_4), (1, x10_5)])) (fun x11_6 w => S w ∧ (nextS P (V (Instr.fieldAt 51 x2_1 0)) (fun x12_7 =>
 nextS P (V (Instr.loadAt 3 x12_7)) (fun x13_8 =>
 callS P 45 #[x13_8] (fun x14_9 =>
 nextS P (V (Instr.field 110 x14_9 4)) (fun x15_10 =>
 nextS P (binN .and 3 (Operand.tmp 15) (Operand.const (Value.int IntKind.i64 1)) x15_10 (Value.int IntKind.i64 1)) (fun x16_11 =>
 nextS P (binN .neq 3 (Operand.tmp 16) (Operand.const (Value.int IntKind.i64 0)) x16_11 (Value.int IntKind.i64 0)) (fun x17_12 =>
 condS x17_12
 (nextS P (V (Instr.fieldAt 51 x2_1 1)) (fun x19_13 =>
 nextS P (V (Instr.loadAt 3 x19_13)) (fun x20_14 =>
 callS P 43 #[x20_14] (fun x21_15 =>
 nextS P (V (Instr.buildSlice 108 1 #[(0, x21_15)])) (fun x22_16 =>
 nextS P (bltN .append #[108, 108] 108 #[false, false] #[x11_6, x22_16]) (fun x23_17 =>
 S32_k1 ret pn x2_1 x23_17) pn) pn) pn) pn) pn)
 (S32_k1 ret pn x2_1 x11_6)) pn) pn) pn) pn) pn) pn) w) pn) w) pn) w) pn) pn
def mo32 : Nat → Mo
  | 1 => (Mo.take 0 (Mo.take 2 (Mo.take 3 (Mo.eff 1 (Mo.eff 4 (Mo.eff 5 (Mo.take 6 Mo.done)))))))
  | _ => .done
def lv32 : Nat → List Nat := fun _ => []
theorem ok32 : okC Tryd.f32.ntmps mo32 (Tryd.f32.body.getD .skip) = true := by kernel_rfl
theorem eq32 (a0 a1 : Value) (ret : Value → C) (pn : Pn) : D P mo32 lv32 pn (Tryd.f32.body.getD .skip) (finQ P Tryd.f32.results ret) (env0 [a0, a1]) = S32 a0 a1 ret pn := by kernel_rfl
theorem c32 {a0 a1 : Value} {R : Ending → World → Prop} {w : World} (h : S32 a0 a1 (fun v w => R (.returned v) w) (fun c w => R (.panicked c) w) w) : Calls P 32 #[a0, a1] w R :=
  callsD mixed mo32 lv32 Tryd.func32 rfl (Nat.le_of_ble_eq_true rfl) ok32 ((congrFun (eq32 a0 a1 _ _) w).mpr h)
theorem en32 (args : Array Value) (w : World) : (callFunc 32 args).run P w = .ok (.enter 32 args) w := by kernel_rfl

/-! ### (*strings.Builder).String -/
def S33 (a0 : Value) (ret : Value → C) (pn : Pn) : C :=
 DrawS fun S =>
 pureS P (nilN a0) fun x4_1 =>
 pureS P (V (Instr.fieldAt 82 x4_1 1)) fun x5_2 =>
 takeS S P (V (Instr.loadAt 80 x5_2)) fun x6_3 =>
 takeS S P (bltN .unsafeSliceData #[80] 114 #[false] #[x6_3]) fun x7_4 =>
 pureS P (nilN a0) fun x9_5 =>
 pureS P (V (Instr.fieldAt 82 x9_5 1)) fun x10_6 =>
 takeS S P (V (Instr.loadAt 80 x10_6)) fun x11_7 =>
 takeS S P (bltN .len #[80] 3 #[false] #[x11_7]) fun x12_8 =>
 nextS P (bltN .unsafeString #[114, 3] 9 #[false, false] #[x7_4, x12_8]) (fun x13_9 w => S w ∧ (ret x13_9) w) pn
def mo33 : Nat → Mo
  | 1 => (Mo.take 0 (Mo.take 1 (Mo.take 2 (Mo.take 3 (Mo.take 4 (Mo.take 5 (Mo.take 6 (Mo.take 7 (Mo.take 8 (Mo.take 9 (Mo.eff 10 (Mo.take 11 Mo.done))))))))))))
  | _ => .done
def lv33 : Nat → List Nat := fun _ => []
theorem ok33 : okC Tryd.f33.ntmps mo33 (Tryd.f33.body.getD .skip) = true := by kernel_rfl
theorem eq33 (a0 : Value) (ret : Value → C) (pn : Pn) : D P mo33 lv33 pn (Tryd.f33.body.getD .skip) (finQ P Tryd.f33.results ret) (env0 [a0]) = S33 a0 ret pn := by kernel_rfl
theorem c33 {a0 : Value} {R : Ending → World → Prop} {w : World} (h : S33 a0 (fun v w => R (.returned v) w) (fun c w => R (.panicked c) w) w) : Calls P 33 #[a0] w R :=
  callsD mixed mo33 lv33 Tryd.func33 rfl (Nat.le_of_ble_eq_true rfl) ok33 ((congrFun (eq33 a0 _ _) w).mpr h)
theorem en33 (args : Array Value) (w : World) : (callFunc 33 args).run P w = .ok (.enter 33 args) w := by kernel_rfl

/-! ### (*evenhand / tier.Manager).params -/
def S34 (a0 a1 : Value) (ret : Value → C) (pn : Pn) : C :=
 nextS P (nilN a0) (fun x6_1 =>
 nextS P (V (Instr.fieldAt 60 x6_1 1)) (fun x7_2 =>
 nextS P (V (Instr.fieldAt 24 x7_2 0)) (fun x8_3 =>
 nextS P (V (Instr.loadAt 22 x8_3)) (fun x9_4 =>
 nextS P (V (Instr.indexAt 22 x9_4 a1)) (fun x11_5 =>
 nextS P (V (Instr.fieldAt 46 x11_5 1)) (fun x12_6 =>
 nextS P (V (Instr.loadAt 3 x12_6)) (fun x13_7 =>
 nextS P (bltN .max #[3, 3] 3 #[false, true] #[x13_7, (Value.int IntKind.i64 0)]) (fun x14_8 =>
 nextS P (bltN .min #[3, 3] 3 #[false, true] #[x14_8, (Value.int IntKind.i64 8)]) (fun x15_9 =>
 ret x15_9) pn) pn) pn) pn) pn) pn) pn) pn) pn
def mo34 : Nat → Mo := fun _ => .done
def lv34 : Nat → List Nat := fun _ => []
theorem ok34 : okC Tryd.f34.ntmps mo34 (Tryd.f34.body.getD .skip) = true := by kernel_rfl
theorem eq34 (a0 a1 : Value) (ret : Value → C) (pn : Pn) : D P mo34 lv34 pn (Tryd.f34.body.getD .skip) (finQ P Tryd.f34.results ret) (env0 [a0, a1]) = S34 a0 a1 ret pn := by kernel_rfl
theorem c34 {a0 a1 : Value} {R : Ending → World → Prop} {w : World} (h : S34 a0 a1 (fun v w => R (.returned v) w) (fun c w => R (.panicked c) w) w) : Calls P 34 #[a0, a1] w R :=
  callsD mixed mo34 lv34 Tryd.func34 rfl (Nat.le_of_ble_eq_true rfl) ok34 ((congrFun (eq34 a0 a1 _ _) w).mpr h)
theorem en34 (args : Array Value) (w : World) : (callFunc 34 args).run P w = .ok (.enter 34 args) w := by kernel_rfl

/-! ### (*evenhand / tier.Manager).open -/
def S35 (a0 a1 a2 : Value) (ret : Value → C) (pn : Pn) : C :=
 nextS P (nilN a0) (fun x9_1 =>
 nextS P (V (Instr.fieldAt 60 x9_1 2)) (fun x10_2 =>
 nextS P (V (Instr.loadAt 25 x10_2)) (fun x11_3 =>
 nextS P (bltN .len #[25] 3 #[false] #[x11_3]) (fun x12_4 =>
 nextS P (binN .lss 3 (Operand.tmp 7) (Operand.tmp 12) a1 x12_4) (fun x13_5 =>
 grdS x13_5 true (fun K => K a2) fun x15_6 =>
 grdS x13_5 true (fun K => K a0) fun x16_7 =>
 grdS x13_5 true (fun K => nextS P (nilN x16_7) K pn) fun x17_8 =>
 grdS x13_5 true (fun K => nextS P (V (Instr.fieldAt 60 x17_8 2)) K pn) fun x18_9 =>
 grdS x13_5 true (fun K => nextS P (V (Instr.loadAt 25 x18_9)) K pn) fun x19_10 =>
 grdS x13_5 true (fun K => K a1) fun x20_11 =>
 grdS x13_5 true (fun K => nextS P (V (Instr.indexAt 25 x19_10 x20_11)) K pn) fun x21_12 =>
 grdS x13_5 true (fun K => nextS P (V (Instr.loadAt 34 x21_12)) K pn) fun x22_13 =>
 grdS x13_5 true (fun K => nextS P (bltN .len #[34] 3 #[false] #[x22_13]) K pn) fun x23_14 =>
 grdS x13_5 true (fun K => nextS P (binN .lss 3 (Operand.tmp 15) (Operand.tmp 23) x15_6 x23_14) K pn) fun x24_15 =>
 nextS P (pickN x13_5 x24_15 (Value.bool false)) (fun x25_16 =>
 grdS x25_16 true (fun K => K a0) fun x27_17 =>
 grdS x25_16 true (fun K => nextS P (nilN x27_17) K pn) fun x28_18 =>
 grdS x25_16 true (fun K => nextS P (V (Instr.fieldAt 60 x28_18 2)) K pn) fun x29_19 =>
 grdS x25_16 true (fun K => nextS P (V (Instr.loadAt 25 x29_19)) K pn) fun x30_20 =>
 grdS x25_16 true (fun K => K a1) fun x31_21 =>
 grdS x25_16 true (fun K => nextS P (V (Instr.indexAt 25 x30_20 x31_21)) K pn) fun x32_22 =>
 grdS x25_16 true (fun K => nextS P (V (Instr.loadAt 34 x32_22)) K pn) fun x33_23 =>
 grdS x25_16 true (fun K => K a2) fun x34_24 =>
 grdS x25_16 true (fun K => nextS P (V (Instr.indexAt 34 x33_23 x34_24)) K pn) fun x35_25 =>
 grdS x25_16 true (fun K => nextS P (V (Instr.loadAt 4 x35_25)) K pn) fun x36_26 =>
 nextS P (pickN x25_16 x36_26 (Value.bool false)) (fun x37_27 =>
 ret x37_27) pn) pn) pn) pn) pn) pn) pn
def mo35 : Nat → Mo := fun _ => .done
def lv35 : Nat → List Nat := fun _ => []
theorem ok35 : okC Tryd.f35.ntmps mo35 (Tryd.f35.body.getD .skip) = true := by kernel_rfl
theorem eq35 (a0 a1 a2 : Value) (ret : Value → C) (pn : Pn) : D P mo35 lv35 pn (Tryd.f35.body.getD .skip) (finQ P Tryd.f35.results ret) (env0 [a0, a1, a2]) = S35 a0 a1 a2 ret pn := by kernel_rfl
theorem c35 {a0 a1 a2 : Value} {R : Ending → World → Prop} {w : World} (h : S35 a0 a1 a2 (fun v w => R (.returned v) w) (fun c w => R (.panicked c) w) w) : Calls P 35 #[a0, a1, a2] w R :=
  callsD mixed mo35 lv35 Tryd.func35 rfl (Nat.le_of_ble_eq_true rfl) ok35 ((congrFun (eq35 a0 a1 a2 _ _) w).mpr h)
theorem en35 (args : Array Value) (w : World) : (callFunc 35 args).run P w = .ok (.enter 35 args) w := by kernel_rfl

/-! ### (*evenhand / profile.Profile).of -/
def S36 (a0 a1 : Value) (ret : Value → C) (pn : Pn) : C :=
 nextS P (binN .lss 3 (Operand.tmp 5) (Operand.const (Value.int IntKind.i64 0)) a1 (Value.int IntKind.i64 0)) (fun x6_1 =>
 grdS x6_1 false (fun K => K a1) fun x8_2 =>
 grdS x6_1 false (fun K => K a0) fun x9_3 =>
 grdS x6_1 false (fun K => nextS P (nilN x9_3) K pn) fun x10_4 =>
 grdS x6_1 false (fun K => nextS P (V (Instr.fieldAt 94 x10_4 0)) K pn) fun x11_5 =>
 grdS x6_1 false (fun K => nextS P (V (Instr.loadAt 92 x11_5)) K pn) fun x12_6 =>
 grdS x6_1 false (fun K => nextS P (bltN .len #[92] 3 #[false] #[x12_6]) K pn) fun x13_7 =>
 grdS x6_1 false (fun K => nextS P (binN .geq 3 (Operand.tmp 8) (Operand.tmp 13) x8_2 x13_7) K pn) fun x14_8 =>
 nextS P (pickN x6_1 (Value.bool true) x14_8) (fun x15_9 =>
 condS x15_9
 (ret (Value.pointer none))
 (nextS P (nilN a0) (fun x17_10 =>
 nextS P (V (Instr.fieldAt 94 x17_10 0)) (fun x18_11 =>
 nextS P (V (Instr.loadAt 92 x18_11)) (fun x19_12 =>
 nextS P (V (Instr.indexAt 92 x19_12 a1)) (fun x21_13 =>
 ret x21_13) pn) pn) pn) pn)) pn) pn
def mo36 : Nat → Mo := fun _ => .done
def lv36 : Nat → List Nat := fun _ => []
theorem ok36 : okC Tryd.f36.ntmps mo36 (Tryd.f36.body.getD .skip) = true := by kernel_rfl
theorem eq36 (a0 a1 : Value) (ret : Value → C) (pn : Pn) : D P mo36 lv36 pn (Tryd.f36.body.getD .skip) (finQ P Tryd.f36.results ret) (env0 [a0, a1]) = S36 a0 a1 ret pn := by kernel_rfl
theorem c36 {a0 a1 : Value} {R : Ending → World → Prop} {w : World} (h : S36 a0 a1 (fun v w => R (.returned v) w) (fun c w => R (.panicked c) w) w) : Calls P 36 #[a0, a1] w R :=
  callsD mixed mo36 lv36 Tryd.func36 rfl (Nat.le_of_ble_eq_true rfl) ok36 ((congrFun (eq36 a0 a1 _ _) w).mpr h)
theorem en36 (args : Array Value) (w : World) : (callFunc 36 args).run P w = .ok (.enter 36 args) w := by kernel_rfl

/-! ### (*evenhand / profile.run).see -/
def S37_k1 (ret : Value → C) (pn : Pn) (y0 : Value) : C :=
 nextS P (nilN y0) (fun x16_8 =>
 nextS P (V (Instr.fieldAt 96 x16_8 1)) (fun x17_9 =>
 nextS P (V (Instr.loadAt 3 x17_9)) (fun x18_10 =>
 nextS P (binN .add 3 (Operand.tmp 18) (Operand.const (Value.int IntKind.i64 1)) x18_10 (Value.int IntKind.i64 1)) (fun x19_11 =>
 nextS P (bltN .min #[3, 3] 3 #[false, true] #[x19_11, (Value.int IntKind.i64 1000)]) (fun x20_12 =>
 nextS P (nilN y0) (fun x21_13 =>
 nextS P (V (Instr.fieldAt 96 x21_13 1)) (fun x22_14 =>
 nextS P (U (Instr.storeAt 3 x22_14 x20_12)) (fun _ =>
 ret (.tuple #[])) pn) pn) pn) pn) pn) pn) pn) pn
def S37 (a0 a1 : Value) (ret : Value → C) (pn : Pn) : C :=
 nextS P (nilN a0) (fun x5_1 =>
 nextS P (V (Instr.fieldAt 96 x5_1 0)) (fun x6_2 =>
 nextS P (V (Instr.loadAt 2 x6_2)) (fun x7_3 =>
 nextS P (binN .neq 2 (Operand.tmp 7) (Operand.tmp 8) x7_3 a1) (fun x9_4 =>
 condS x9_4
 (nextS P (V (Instr.build 96 #[(0, a1)])) (fun x12_5 =>
 nextS P (nilN a0) (fun x13_6 =>
 nextS P (U (Instr.storeAt 96 x13_6 x12_5)) (fun _ =>
 S37_k1 ret pn a0) pn) pn) pn)
 (S37_k1 ret pn a0)) pn) pn) pn) pn
def mo37 : Nat → Mo := fun _ => .done
def lv37 : Nat → List Nat := fun _ => []
theorem ok37 : okC Tryd.f37.ntmps mo37 (Tryd.f37.body.getD .skip) = true := by kernel_rfl
theorem eq37 (a0 a1 : Value) (ret : Value → C) (pn : Pn) : D P mo37 lv37 pn (Tryd.f37.body.getD .skip) (finQ P Tryd.f37.results ret) (env0 [a0, a1]) = S37 a0 a1 ret pn := by kernel_rfl
theorem c37 {a0 a1 : Value} {R : Ending → World → Prop} {w : World} (h : S37 a0 a1 (fun v w => R (.returned v) w) (fun c w => R (.panicked c) w) w) : Calls P 37 #[a0, a1] w R :=
  callsD mixed mo37 lv37 Tryd.func37 rfl (Nat.le_of_ble_eq_true rfl) ok37 ((congrFun (eq37 a0 a1 _ _) w).mpr h)
theorem en37 (args : Array Value) (w : World) : (callFunc 37 args).run P w = .ok (.enter 37 args) w := by kernel_rfl

/-! ### (*evenhand / tier.Manager).body -/
def S38_l1 (nx1 : List Value → C) (ret : Value → C) (pn : Pn) (e : Env) : C :=
 nextS P (binN .lss 3 (Operand.tmp 22) (Operand.tmp 21) (e 22) (e 21)) (fun x23_10 =>
 condS x23_10
 (nextS P (binN .eql 2 (Operand.tmp 25) (Operand.const (Value.int IntKind.i64 2)) (e 2) (Value.int IntKind.i64 2)) (fun x26_11 =>
 grdS x26_11 true (fun K => K (e 0)) fun x28_12 =>
 grdS x26_11 true (fun K => K (e 1)) fun x29_13 =>
 grdS x26_11 true (fun K => K (e 22)) fun x30_14 =>
 grdS x26_11 true (fun K => callS P 35 #[x28_12, x29_13, x30_14] K pn) fun x31_15 =>
 nextS P (pickN x26_11 x31_15 (Value.bool false)) (fun x32_16 =>
 condS x32_16
 (nextS P (nilN (e 0)) (fun x35_17 =>
 nextS P (V (Instr.fieldAt 60 x35_17 4)) (fun x36_18 =>
 nextS P (V (Instr.loadAt 58 x36_18)) (fun x37_19 =>
 callS P 48 #[x37_19, (e 1), (e 22)] (fun x40_20 =>
 nextS P (V (Instr.extract x40_20 0)) (fun x41_21 =>
 nextS P (V (Instr.extract x40_20 1)) (fun x42_22 =>
 nextS P (nilN (e 0)) (fun x44_23 =>
 nextS P (V (Instr.fieldAt 60 x44_23 5)) (fun x45_24 =>
 nextS P (V (Instr.loadAt 57 x45_24)) (fun x46_25 =>
 nextS P (V (Instr.build 75 #[(0, (e 22)), (1, x41_21)])) (fun x50_26 =>
 nextS P (U (Instr.mapUpdate 57 x46_25 (e 1) x50_26)) (fun _ =>
 nextS P (V (Instr.loadAt 46 (e 7))) (fun x51_28 =>
 callS P 49 #[x51_28, (e 22), x41_21] (fun x54_29 =>
 ret x54_29) pn) pn) pn) pn) pn) pn) pn) pn) pn) pn) pn) pn) pn)
 (nextS P (binN .add 3 (Operand.tmp 22) (Operand.const (Value.int IntKind.i64 1)) (e 22) (Value.int IntKind.i64 1)) (fun x55_30 =>
 nx1 [(e 0), (e 1), (e 2), (e 7), (e 21), x55_30]) pn)) pn) pn)
 (nextS P (V (Instr.loadAt 46 (e 7))) (fun x56_31 =>
 callS P 50 #[x56_31] (fun x57_32 =>
 ret x57_32) pn) pn)) pn
def S38 (a0 a1 a2 : Value) (ret : Value → C) (pn : Pn) : C :=
 nextS P (nilN a0) (fun x12_1 =>
 nextS P (V (Instr.fieldAt 60 x12_1 1)) (fun x13_2 =>
 nextS P (V (Instr.fieldAt 24 x13_2 0)) (fun x14_3 =>
 nextS P (V (Instr.loadAt 22 x14_3)) (fun x15_4 =>
 nextS P (V (Instr.indexAt 22 x15_4 a1)) (fun x17_5 =>
 nextS P (V (Instr.loadAt 46 x17_5)) (fun x18_6 =>
 nextS P (V (Instr.alloc 46 true (.tuple #[]))) (fun x7_7 =>
 nextS P (U (Instr.storeAt 46 x7_7 x18_6)) (fun _ =>
 callS P 34 #[a0, a1] (fun x21_9 =>
 LoopS [a0, a1, a2, x7_7, x21_9, (Value.int IntKind.i64 0)] [0, 1, 2, 7, 21, 22] fun nx1 e => S38_l1 nx1 ret pn e) pn) pn) pn) pn) pn) pn) pn) pn) pn
def mo38 : Nat → Mo := fun _ => .done
def lv38 : Nat → List Nat
  | 3 => [0, 1, 2, 7, 21, 22]
  | _ => []
theorem ok38 : okC Tryd.f38.ntmps mo38 (Tryd.f38.body.getD .skip) = true := by kernel_rfl
theorem eq38 (a0 a1 a2 : Value) (ret : Value → C) (pn : Pn) : D P mo38 lv38 pn (Tryd.f38.body.getD .skip) (finQ P Tryd.f38.results ret) (env0 [a0, a1, a2]) = S38 a0 a1 a2 ret pn := by kernel_rfl
theorem c38 {a0 a1 a2 : Value} {R : Ending → World → Prop} {w : World} (h : S38 a0 a1 a2 (fun v w => R (.returned v) w) (fun c w => R (.panicked c) w) w) : Calls P 38 #[a0, a1, a2] w R :=
  callsD mixed mo38 lv38 Tryd.func38 rfl (Nat.le_of_ble_eq_true rfl) ok38 ((congrFun (eq38 a0 a1 a2 _ _) w).mpr h)
theorem en38 (args : Array Value) (w : World) : (callFunc 38 args).run P w = .ok (.enter 38 args) w := by kernel_rfl

/-! ### (*evenhand / cache.Cache).Put -/
def S39_k1 (ret : Value → C) (pn : Pn) (y0 y1 y2 y8 y9 : Value) : C :=
 nextS P (nilN y0) (fun x34_17 =>
 nextS P (V (Instr.fieldAt 91 x34_17 1)) (fun x35_18 =>
 nextS P (V (Instr.loadAt 63 x35_18)) (fun x36_19 =>
 nextS P (V (Instr.buildSlice 63 1 #[(0, y1)])) (fun x38_20 =>
 nextS P (bltN .append #[63, 63] 63 #[false, false] #[x36_19, x38_20]) (fun x39_21 =>
 nextS P (nilN y0) (fun x40_22 =>
 nextS P (V (Instr.fieldAt 91 x40_22 1)) (fun x41_23 =>
 nextS P (U (Instr.storeAt 63 x41_23 x39_21)) (fun _ =>
 DrawS fun S =>
 pureS P (nilN y0) fun x43_25 =>
 pureS P (V (Instr.fieldAt 91 x43_25 2)) fun x44_26 =>
 takeS S P (V (Instr.loadAt 89 x44_26)) fun x45_27 =>
 callS P 19 #[y2] (fun x48_28 w => S w ∧ (nextS P (U (Instr.mapUpdate 89 x45_27 y1 x48_28)) (fun _ w => S w ∧ (ret (.tuple #[y8, y9])) w) pn) w) pn) pn) pn) pn) pn) pn) pn) pn) pn
def S39 (a0 a1 a2 : Value) (ret : Value → C) (pn : Pn) : C :=
 DrawS fun S =>
 callS P 27 #[a0, a1] (fun x12_1 w => S w ∧ (pureS P (V (Op.unary .not x12_1)) fun x13_2 =>
 grdS x13_2 true (fun K => K a0) fun x15_3 =>
 grdS x13_2 true (fun K => K a0) fun x17_4 =>
 grdS x13_2 true (pureS P (nilN x17_4)) fun x18_5 =>
 grdS x13_2 true (pureS P (V (Instr.fieldAt 91 x18_5 0))) fun x19_6 =>
 grdS x13_2 true (takeS S P (V (Instr.loadAt 3 x19_6))) fun x20_7 =>
 grdS x13_2 true (fun K => callS P 51 #[x15_3] K pn) fun x16_8 w => S w ∧ (grdS x13_2 true (pureS P (binN .eql 3 (Operand.tmp 16) (Operand.tmp 20) x16_8 x20_7)) fun x21_9 =>
 pureS P (pickN x13_2 x21_9 (Value.bool false)) fun x22_10 =>
 condS x22_10
 (nextS P (nilN a0) (fun x24_11 =>
 nextS P (V (Instr.fieldAt 91 x24_11 1)) (fun x25_12 =>
 nextS P (V (Instr.loadAt 63 x25_12)) (fun x26_13 =>
 nextS P (V (Instr.indexAt 63 x26_13 (Value.int IntKind.i64 0))) (fun x27_14 =>
 nextS P (V (Instr.loadAt 3 x27_14)) (fun x28_15 =>
 callS P 27 #[a0, x28_15] (fun x31_16 =>
 S39_k1 ret pn a0 a1 a2 x28_15 x31_16) pn) pn) pn) pn) pn) pn)
 (S39_k1 ret pn a0 a1 a2 (Value.int IntKind.i64 0) (Value.bool false))) w) w) pn
def mo39 : Nat → Mo
  | 2 => (Mo.take 0 (Mo.take 1 (Mo.eff 2 (Mo.take 3 (Mo.take 4 (Mo.take 5 (Mo.take 7 (Mo.take 8 (Mo.take 9 (Mo.take 10 (Mo.eff 6 (Mo.take 11 (Mo.take 12 Mo.done)))))))))))))
  | 6 => (Mo.take 0 (Mo.take 1 (Mo.take 2 (Mo.take 3 (Mo.take 4 (Mo.take 5 (Mo.eff 6 (Mo.eff 7 Mo.done))))))))
  | _ => .done
def lv39 : Nat → List Nat := fun _ => []
theorem ok39 : okC Tryd.f39.ntmps mo39 (Tryd.f39.body.getD .skip) = true := by kernel_rfl
theorem eq39 (a0 a1 a2 : Value) (ret : Value → C) (pn : Pn) : D P mo39 lv39 pn (Tryd.f39.body.getD .skip) (finQ P Tryd.f39.results ret) (env0 [a0, a1, a2]) = S39 a0 a1 a2 ret pn := by kernel_rfl
theorem c39 {a0 a1 a2 : Value} {R : Ending → World → Prop} {w : World} (h : S39 a0 a1 a2 (fun v w => R (.returned v) w) (fun c w => R (.panicked c) w) w) : Calls P 39 #[a0, a1, a2] w R :=
  callsD mixed mo39 lv39 Tryd.func39 rfl (Nat.le_of_ble_eq_true rfl) ok39 ((congrFun (eq39 a0 a1 a2 _ _) w).mpr h)
theorem en39 (args : Array Value) (w : World) : (callFunc 39 args).run P w = .ok (.enter 39 args) w := by kernel_rfl

/-! ### slices.DeleteFunc[[]int,int] -/
def S40_k2 (nx1 : List Value → C) (ret : Value → C) (pn : Pn) (y0 y1 y5 y6 : Value) : C :=
 nextS P (binN .add 3 (Operand.tmp 20) (Operand.const (Value.int IntKind.i64 1)) y6 (Value.int IntKind.i64 1)) (fun x21_13 =>
 nx1 [y0, y1, y5, x21_13]) pn
def S40_l1 (nx1 : List Value → C) (ret : Value → C) (pn : Pn) (e : Env) : C :=
 nextS P (bltN .len #[63] 3 #[false] #[(e 0)]) (fun x18_4 =>
 nextS P (binN .lss 3 (Operand.tmp 16) (Operand.tmp 18) (e 6) x18_4) (fun x19_5 =>
 condS x19_5
 (nextS P (V (Instr.indexAt 63 (e 0) (e 6))) (fun x24_6 =>
 nextS P (V (Instr.loadAt 3 x24_6)) (fun x25_7 =>
 nextS P (callVN (e 1) #[x25_7]) (fun x28_8 =>
 nextS P (V (Op.unary .not x28_8)) (fun x29_9 =>
 condS x29_9
 (nextS P (V (Instr.indexAt 63 (e 0) (e 5))) (fun x33_10 =>
 nextS P (U (Instr.storeAt 3 x33_10 x25_7)) (fun _ =>
 nextS P (binN .add 3 (Operand.tmp 34) (Operand.const (Value.int IntKind.i64 1)) (e 5) (Value.int IntKind.i64 1)) (fun x35_12 =>
 S40_k2 nx1 ret pn (e 0) (e 1) x35_12 (e 6)) pn) pn) pn)
 (S40_k2 nx1 ret pn (e 0) (e 1) (e 5) (e 6))) pn) pn) pn) pn)
 (nextS P (V (Instr.sliceAt 63 (e 0) (some (e 5)) none none)) (fun x38_14 =>
 nextS P (bltN .clear #[63] 0 #[false] #[x38_14]) (fun _ =>
 nextS P (V (Instr.sliceAt 63 (e 0) none (some (e 5)) none)) (fun x41_16 =>
 ret x41_16) pn) pn) pn)) pn) pn
def S40 (a0 a1 : Value) (ret : Value → C) (pn : Pn) : C :=
 callS P 52 #[a0, a1] (fun x10_1 =>
 nextS P (binN .eql 3 (Operand.tmp 11) (Operand.const (Value.int IntKind.i64 (-1))) x10_1 (Value.int IntKind.i64 (-1))) (fun x12_2 =>
 condS x12_2
 (ret a0)
 (nextS P (binN .add 3 (Operand.tmp 14) (Operand.const (Value.int IntKind.i64 1)) x10_1 (Value.int IntKind.i64 1)) (fun x15_3 =>
 LoopS [a0, a1, x10_1, x15_3] [0, 1, 5, 6] fun nx1 e => S40_l1 nx1 ret pn e) pn)) pn) pn
def mo40 : Nat → Mo := fun _ => .done
def lv40 : Nat → List Nat
  | 5 => [0, 1, 5, 6]
  | _ => []
theorem ok40 : okC Tryd.f40.ntmps mo40 (Tryd.f40.body.getD .skip) = true := by kernel_rfl
theorem eq40 (a0 a1 : Value) (ret : Value → C) (pn : Pn) : D P mo40 lv40 pn (Tryd.f40.body.getD .skip) (finQ P Tryd.f40.results ret) (env0 [a0, a1]) = S40 a0 a1 ret pn := by kernel_rfl
theorem c40 {a0 a1 : Value} {R : Ending → World → Prop} {w : World} (h : S40 a0 a1 (fun v w => R (.returned v) w) (fun c w => R (.panicked c) w) w) : Calls P 40 #[a0, a1] w R :=
  callsD mixed mo40 lv40 Tryd.func40 rfl (Nat.le_of_ble_eq_true rfl) ok40 ((congrFun (eq40 a0 a1 _ _) w).mpr h)
theorem en40 (args : Array Value) (w : World) : (callFunc 40 args).run P w = .ok (.enter 40 args) w := by kernel_rfl

/-! ### (*evenhand / cache.Cache).Drop$1 -/
def S41 (a0 a1 : Value) (ret : Value → C) (pn : Pn) : C :=
 nextS P (V (Instr.loadAt 3 a1)) (fun x5_1 =>
 nextS P (binN .eql 3 (Operand.tmp 4) (Operand.tmp 5) a0 x5_1) (fun x6_2 =>
 ret x6_2) pn) pn
def mo41 : Nat → Mo := fun _ => .done
def lv41 : Nat → List Nat := fun _ => []
theorem ok41 : okC Tryd.f41.ntmps mo41 (Tryd.f41.body.getD .skip) = true := by kernel_rfl
theorem eq41 (a0 a1 : Value) (ret : Value → C) (pn : Pn) : D P mo41 lv41 pn (Tryd.f41.body.getD .skip) (finQ P Tryd.f41.results ret) (env0 [a0, a1]) = S41 a0 a1 ret pn := by kernel_rfl
theorem c41 {a0 a1 : Value} {R : Ending → World → Prop} {w : World} (h : S41 a0 a1 (fun v w => R (.returned v) w) (fun c w => R (.panicked c) w) w) : Calls P 41 #[a0, a1] w R :=
  callsD mixed mo41 lv41 Tryd.func41 rfl (Nat.le_of_ble_eq_true rfl) ok41 ((congrFun (eq41 a0 a1 _ _) w).mpr h)
theorem en41 (args : Array Value) (w : World) : (callFunc 41 args).run P w = .ok (.enter 41 args) w := by kernel_rfl

/-! ### (*strings.Builder).copyCheck -/
def S42 (a0 : Value) (ret : Value → C) (pn : Pn) : C :=
 nextS P (nilN a0) (fun x3_1 =>
 nextS P (V (Instr.fieldAt 82 x3_1 0)) (fun x4_2 =>
 nextS P (V (Instr.loadAt 79 x4_2)) (fun x5_3 =>
 nextS P (binN .eql 79 (Operand.tmp 5) (Operand.const (Value.pointer none)) x5_3 (Value.pointer none)) (fun x6_4 =>
 condS x6_4
 (nextS P (V (convert 79 122 a0)) (fun x9_5 =>
 callS P 53 #[x9_5] (fun x10_6 =>
 nextS P (V (convert 122 79 x10_6)) (fun x11_7 =>
 nextS P (nilN a0) (fun x12_8 =>
 nextS P (V (Instr.fieldAt 82 x12_8 0)) (fun x13_9 =>
 nextS P (U (Instr.storeAt 79 x13_9 x11_7)) (fun _ =>
 ret (.tuple #[])) pn) pn) pn) pn) pn) pn)
 (nextS P (nilN a0) (fun x15_11 =>
 nextS P (V (Instr.fieldAt 82 x15_11 0)) (fun x16_12 =>
 nextS P (V (Instr.loadAt 79 x16_12)) (fun x17_13 =>
 nextS P (binN .neq 79 (Operand.tmp 17) (Operand.tmp 18) x17_13 a0) (fun x19_14 =>
 condS x19_14
 (fun _ => False)
 (ret (.tuple #[]))) pn) pn) pn) pn)) pn) pn) pn) pn
def mo42 : Nat → Mo := fun _ => .done
def lv42 : Nat → List Nat := fun _ => []
theorem ok42 : okC Tryd.f42.ntmps mo42 (Tryd.f42.body.getD .skip) = true := by kernel_rfl
theorem eq42 (a0 : Value) (ret : Value → C) (pn : Pn) : D P mo42 lv42 pn (Tryd.f42.body.getD .skip) (finQ P Tryd.f42.results ret) (env0 [a0]) = S42 a0 ret pn := by kernel_rfl
theorem c42 {a0 : Value} {R : Ending → World → Prop} {w : World} (h : S42 a0 (fun v w => R (.returned v) w) (fun c w => R (.panicked c) w) w) : Calls P 42 #[a0] w R :=
  callsD mixed mo42 lv42 Tryd.func42 rfl (Nat.le_of_ble_eq_true rfl) ok42 ((congrFun (eq42 a0 _ _) w).mpr h)
theorem en42 (args : Array Value) (w : World) : (callFunc 42 args).run P w = .ok (.enter 42 args) w := by kernel_rfl

/-! ### evenhand / code.Name -/
def S44 (a0 : Value) (ret : Value → C) (pn : Pn) : C :=
 callS P 45 #[a0] (fun x4_1 =>
 nextS P (V (Instr.field 110 x4_1 0)) (fun x5_2 =>
 ret x5_2) pn) pn
def mo44 : Nat → Mo := fun _ => .done
def lv44 : Nat → List Nat := fun _ => []
theorem ok44 : okC Tryd.f44.ntmps mo44 (Tryd.f44.body.getD .skip) = true := by kernel_rfl
theorem eq44 (a0 : Value) (ret : Value → C) (pn : Pn) : D P mo44 lv44 pn (Tryd.f44.body.getD .skip) (finQ P Tryd.f44.results ret) (env0 [a0]) = S44 a0 ret pn := by kernel_rfl
theorem c44 {a0 : Value} {R : Ending → World → Prop} {w : World} (h : S44 a0 (fun v w => R (.returned v) w) (fun c w => R (.panicked c) w) w) : Calls P 44 #[a0] w R :=
  callsD mixed mo44 lv44 Tryd.func44 rfl (Nat.le_of_ble_eq_true rfl) ok44 ((congrFun (eq44 a0 _ _) w).mpr h)
theorem en44 (args : Array Value) (w : World) : (callFunc 44 args).run P w = .ok (.enter 44 args) w := by kernel_rfl

/-! ### evenhand / code.of -/
def S45_k1 (ret : Value → C) (pn : Pn) (y0 y2 : Value) : C :=
 nextS P (V (Instr.indexAt 124 (Value.pointer (some ⟨0, 0, none⟩)) y0)) (fun x7_4 =>
 nextS P (V (Instr.loadAt 110 x7_4)) (fun x8_5 =>
 nextS P (U (Instr.storeAt 110 y2 x8_5)) (fun _ =>
 cellS P 110 y2 ret) pn) pn) pn
def S45 (a0 : Value) (ret : Value → C) (pn : Pn) : C :=
 nextS P (V (Instr.alloc 110 true (.tuple #[]))) (fun x2_1 =>
 callS P 55 #[a0] (fun x4_2 =>
 nextS P (V (Op.unary .not x4_2)) (fun x5_3 =>
 condS x5_3
 (S45_k1 ret pn (Value.int IntKind.i64 0) x2_1)
 (S45_k1 ret pn a0 x2_1)) pn) pn) pn
def mo45 : Nat → Mo := fun _ => .done
def lv45 : Nat → List Nat := fun _ => []
theorem ok45 : okC Tryd.f45.ntmps mo45 (Tryd.f45.body.getD .skip) = true := by kernel_rfl
theorem eq45 (a0 : Value) (ret : Value → C) (pn : Pn) : D P mo45 lv45 pn (Tryd.f45.body.getD .skip) (finQ P Tryd.f45.results ret) (env0 [a0]) = S45 a0 ret pn := by kernel_rfl
theorem c45 {a0 : Value} {R : Ending → World → Prop} {w : World} (h : S45 a0 (fun v w => R (.returned v) w) (fun c w => R (.panicked c) w) w) : Calls P 45 #[a0] w R :=
  callsD mixed mo45 lv45 Tryd.func45 rfl (Nat.le_of_ble_eq_true rfl) ok45 ((congrFun (eq45 a0 _ _) w).mpr h)
theorem en45 (args : Array Value) (w : World) : (callFunc 45 args).run P w = .ok (.enter 45 args) w := by kernel_rfl

/-! ### (*evenhand / profile.Profile).Value -/
def S48 (a0 a1 a2 : Value) (ret : Value → C) (pn : Pn) : C :=
 callS P 36 #[a0, a1] (fun x11_1 =>
 nextS P (binN .eql 101 (Operand.tmp 12) (Operand.const (Value.pointer none)) x11_1 (Value.pointer none)) (fun x13_2 =>
 grdS x13_2 false (fun K => K a2) fun x15_3 =>
 grdS x13_2 false (fun K => nextS P (binN .lss 3 (Operand.tmp 15) (Operand.const (Value.int IntKind.i64 0)) x15_3 (Value.int IntKind.i64 0)) K pn) fun x16_4 =>
 nextS P (pickN x13_2 (Value.bool true) x16_4) (fun x17_5 =>
 grdS x17_5 false (fun K => K a2) fun x19_6 =>
 grdS x17_5 false (fun K => K x11_1) fun x20_7 =>
 grdS x17_5 false (fun K => nextS P (nilN x20_7) K pn) fun x21_8 =>
 grdS x17_5 false (fun K => nextS P (V (Instr.fieldAt 99 x21_8 0)) K pn) fun x22_9 =>
 grdS x17_5 false (fun K => nextS P (V (Instr.loadAt 3 x22_9)) K pn) fun x23_10 =>
 grdS x17_5 false (fun K => nextS P (binN .geq 3 (Operand.tmp 19) (Operand.tmp 23) x19_6 x23_10) K pn) fun x24_11 =>
 nextS P (pickN x17_5 (Value.bool true) x24_11) (fun x25_12 =>
 condS x25_12
 (ret (.tuple #[(Value.int IntKind.i64 0), (Value.int IntKind.i64 0)]))
 (DrawS fun S =>
 pureS P (nilN x11_1) fun x28_13 =>
 pureS P (V (Instr.fieldAt 99 x28_13 2)) fun x29_14 =>
 pureS P (V (Instr.indexAt 97 x29_14 a2)) fun x30_15 =>
 pureS P (V (Instr.fieldAt 96 x30_15 0)) fun x31_16 =>
 takeS S P (V (Instr.loadAt 2 x31_16)) fun x32_17 =>
 pureS P (nilN x11_1) fun x35_18 =>
 pureS P (V (Instr.fieldAt 99 x35_18 2)) fun x36_19 =>
 pureS P (V (Instr.indexAt 97 x36_19 a2)) fun x37_20 =>
 pureS P (V (Instr.fieldAt 96 x37_20 1)) fun x38_21 =>
 takeS S P (V (Instr.loadAt 3 x38_21)) fun x39_22 =>
 ret (.tuple #[x32_17, x39_22]))) pn) pn) pn) pn
def mo48 : Nat → Mo
  | 4 => (Mo.take 0 (Mo.take 1 (Mo.take 2 (Mo.take 3 (Mo.take 4 (Mo.take 5 (Mo.take 6 (Mo.take 7 (Mo.take 8 (Mo.take 9 (Mo.take 10 (Mo.take 11 (Mo.take 12 (Mo.take 13 (Mo.take 14 (Mo.take 15 Mo.done))))))))))))))))
  | _ => .done
def lv48 : Nat → List Nat := fun _ => []
theorem ok48 : okC Tryd.f48.ntmps mo48 (Tryd.f48.body.getD .skip) = true := by kernel_rfl
theorem eq48 (a0 a1 a2 : Value) (ret : Value → C) (pn : Pn) : D P mo48 lv48 pn (Tryd.f48.body.getD .skip) (finQ P Tryd.f48.results ret) (env0 [a0, a1, a2]) = S48 a0 a1 a2 ret pn := by kernel_rfl
theorem c48 {a0 a1 a2 : Value} {R : Ending → World → Prop} {w : World} (h : S48 a0 a1 a2 (fun v w => R (.returned v) w) (fun c w => R (.panicked c) w) w) : Calls P 48 #[a0, a1, a2] w R :=
  callsD mixed mo48 lv48 Tryd.func48 rfl (Nat.le_of_ble_eq_true rfl) ok48 ((congrFun (eq48 a0 a1 a2 _ _) w).mpr h)
theorem en48 (args : Array Value) (w : World) : (callFunc 48 args).run P w = .ok (.enter 48 args) w := by kernel_rfl

/-! ### evenhand / spec.For -/
def S49_k2 (nx1 : List Value → C) (ret : Value → C) (pn : Pn) (y1 y2 y7 y19 y20 y21 : Value) : C :=
 nextS P (binN .add 3 (Operand.tmp 21) (Operand.const (Value.int IntKind.i64 1)) y21 (Value.int IntKind.i64 1)) (fun x40_27 =>
 nx1 [y1, y2, y7, y19, y20, x40_27]) pn
def S49_l1 (nx1 : List Value → C) (ret : Value → C) (pn : Pn) (e : Env) : C :=
 nextS P (binN .lss 3 (Operand.tmp 21) (Operand.tmp 20) (e 21) (e 20)) (fun x22_11 =>
 condS x22_11
 (nextS P (V (Instr.indexAt 35 (e 19) (e 21))) (fun x24_12 =>
 nextS P (V (Instr.loadAt 51 x24_12)) (fun x25_13 =>
 nextS P (V (Instr.alloc 51 true (.tuple #[]))) (fun x9_14 =>
 nextS P (U (Instr.storeAt 51 x9_14 x25_13)) (fun _ =>
 nextS P (V (Instr.fieldAt 51 x9_14 0)) (fun x26_16 =>
 nextS P (V (Instr.loadAt 3 x26_16)) (fun x27_17 =>
 nextS P (binN .eql 3 (Operand.tmp 27) (Operand.const (Value.int IntKind.i64 2)) x27_17 (Value.int IntKind.i64 2)) (fun x28_18 =>
 grdS x28_18 true (fun K => nextS P (V (Instr.fieldAt 51 x9_14 1)) K pn) fun x30_19 =>
 grdS x28_18 true (fun K => nextS P (V (Instr.loadAt 3 x30_19)) K pn) fun x31_20 =>
 grdS x28_18 true (fun K => K (e 1)) fun x32_21 =>
 grdS x28_18 true (fun K => nextS P (binN .eql 3 (Operand.tmp 31) (Operand.tmp 32) x31_20 x32_21) K pn) fun x33_22 =>
 nextS P (pickN x28_18 x33_22 (Value.bool false)) (fun x34_23 =>
 condS x34_23
 (nextS P (V (Instr.build 51 #[(0, (Value.int IntKind.i64 1)), (2, (e 2))])) (fun x38_24 =>
 nextS P (V (Instr.indexAt 35 (e 7) (e 21))) (fun x39_25 =>
 nextS P (U (Instr.storeAt 51 x39_25 x38_24)) (fun _ =>
 S49_k2 nx1 ret pn (e 1) (e 2) (e 7) (e 19) (e 20) (e 21)) pn) pn) pn)
 (S49_k2 nx1 ret pn (e 1) (e 2) (e 7) (e 19) (e 20) (e 21))) pn) pn) pn) pn) pn) pn) pn) pn)
 (callS P 59 #[(e 7)] (fun x42_28 =>
 ret x42_28) pn)) pn
def S49 (a0 a1 a2 : Value) (ret : Value → C) (pn : Pn) : C :=
 nextS P (V (Instr.box 46 a0)) (fun x3_1 =>
 nextS P (V (Instr.loadAt 46 x3_1)) (fun x10_2 =>
 callS P 58 #[x10_2, a1] (fun x12_3 =>
 nextS P (V (Op.unary .not x12_3)) (fun x13_4 =>
 condS x13_4
 (nextS P (V (Instr.loadAt 46 x3_1)) (fun x14_5 =>
 callS P 50 #[x14_5] (fun x15_6 =>
 ret x15_6) pn) pn)
 (nextS P (V (Instr.fieldAt 46 x3_1 4)) (fun x16_7 =>
 nextS P (V (Instr.loadAt 35 x16_7)) (fun x17_8 =>
 callS P 19 #[x17_8] (fun x18_9 =>
 nextS P (bltN .len #[35] 3 #[false] #[x18_9]) (fun x20_10 =>
 LoopS [a1, a2, x18_9, x18_9, x20_10, (Value.int IntKind.i64 0)] [1, 2, 7, 19, 20, 21] fun nx1 e => S49_l1 nx1 ret pn e) pn) pn) pn) pn)) pn) pn) pn) pn
def mo49 : Nat → Mo := fun _ => .done
def lv49 : Nat → List Nat
  | 5 => [1, 2, 7, 19, 20, 21]
  | _ => []
theorem ok49 : okC Tryd.f49.ntmps mo49 (Tryd.f49.body.getD .skip) = true := by kernel_rfl
theorem eq49 (a0 a1 a2 : Value) (ret : Value → C) (pn : Pn) : D P mo49 lv49 pn (Tryd.f49.body.getD .skip) (finQ P Tryd.f49.results ret) (env0 [a0, a1, a2]) = S49 a0 a1 a2 ret pn := by kernel_rfl
theorem c49 {a0 a1 a2 : Value} {R : Ending → World → Prop} {w : World} (h : S49 a0 a1 a2 (fun v w => R (.returned v) w) (fun c w => R (.panicked c) w) w) : Calls P 49 #[a0, a1, a2] w R :=
  callsD mixed mo49 lv49 Tryd.func49 rfl (Nat.le_of_ble_eq_true rfl) ok49 ((congrFun (eq49 a0 a1 a2 _ _) w).mpr h)
theorem en49 (args : Array Value) (w : World) : (callFunc 49 args).run P w = .ok (.enter 49 args) w := by kernel_rfl

/-! ### evenhand / spec.Plain -/
def S50 (a0 : Value) (ret : Value → C) (pn : Pn) : C :=
 nextS P (V (Instr.box 46 a0)) (fun x1_1 =>
 nextS P (V (Instr.fieldAt 46 x1_1 4)) (fun x3_2 =>
 nextS P (V (Instr.loadAt 35 x3_2)) (fun x4_3 =>
 callS P 59 #[x4_3] (fun x5_4 =>
 ret x5_4) pn) pn) pn) pn
def mo50 : Nat → Mo := fun _ => .done
def lv50 : Nat → List Nat := fun _ => []
theorem ok50 : okC Tryd.f50.ntmps mo50 (Tryd.f50.body.getD .skip) = true := by kernel_rfl
theorem eq50 (a0 : Value) (ret : Value → C) (pn : Pn) : D P mo50 lv50 pn (Tryd.f50.body.getD .skip) (finQ P Tryd.f50.results ret) (env0 [a0]) = S50 a0 ret pn := by kernel_rfl
theorem c50 {a0 : Value} {R : Ending → World → Prop} {w : World} (h : S50 a0 (fun v w => R (.returned v) w) (fun c w => R (.panicked c) w) w) : Calls P 50 #[a0] w R :=
  callsD mixed mo50 lv50 Tryd.func50 rfl (Nat.le_of_ble_eq_true rfl) ok50 ((congrFun (eq50 a0 _ _) w).mpr h)
theorem en50 (args : Array Value) (w : World) : (callFunc 50 args).run P w = .ok (.enter 50 args) w := by kernel_rfl

/-! ### (*evenhand / cache.Cache).Len -/
def S51 (a0 : Value) (ret : Value → C) (pn : Pn) : C :=
 nextS P (nilN a0) (fun x4_1 =>
 nextS P (V (Instr.fieldAt 91 x4_1 1)) (fun x5_2 =>
 nextS P (V (Instr.loadAt 63 x5_2)) (fun x6_3 =>
 nextS P (bltN .len #[63] 3 #[false] #[x6_3]) (fun x7_4 =>
 ret x7_4) pn) pn) pn) pn
def mo51 : Nat → Mo := fun _ => .done
def lv51 : Nat → List Nat := fun _ => []
theorem ok51 : okC Tryd.f51.ntmps mo51 (Tryd.f51.body.getD .skip) = true := by kernel_rfl
theorem eq51 (a0 : Value) (ret : Value → C) (pn : Pn) : D P mo51 lv51 pn (Tryd.f51.body.getD .skip) (finQ P Tryd.f51.results ret) (env0 [a0]) = S51 a0 ret pn := by kernel_rfl
theorem c51 {a0 : Value} {R : Ending → World → Prop} {w : World} (h : S51 a0 (fun v w => R (.returned v) w) (fun c w => R (.panicked c) w) w) : Calls P 51 #[a0] w R :=
  callsD mixed mo51 lv51 Tryd.func51 rfl (Nat.le_of_ble_eq_true rfl) ok51 ((congrFun (eq51 a0 _ _) w).mpr h)
theorem en51 (args : Array Value) (w : World) : (callFunc 51 args).run P w = .ok (.enter 51 args) w := by kernel_rfl

/-! ### slices.IndexFunc[[]int,int] -/
def S52_l1 (nx1 : List Value → C) (ret : Value → C) (pn : Pn) (e : Env) : C :=
 nextS P (binN .lss 3 (Operand.tmp 8) (Operand.tmp 7) (e 8) (e 7)) (fun x9_2 =>
 condS x9_2
 (nextS P (V (Instr.indexAt 63 (e 0) (e 8))) (fun x14_3 =>
 nextS P (V (Instr.loadAt 3 x14_3)) (fun x15_4 =>
 nextS P (callVN (e 1) #[x15_4]) (fun x16_5 =>
 condS x16_5
 (ret (e 8))
 (nextS P (binN .add 3 (Operand.tmp 8) (Operand.const (Value.int IntKind.i64 1)) (e 8) (Value.int IntKind.i64 1)) (fun x18_6 =>
 nx1 [(e 0), (e 1), (e 7), x18_6]) pn)) pn) pn) pn)
 (ret (Value.int IntKind.i64 (-1)))) pn
def S52 (a0 a1 : Value) (ret : Value → C) (pn : Pn) : C :=
 nextS P (bltN .len #[63] 3 #[false] #[a0]) (fun x7_1 =>
 LoopS [a0, a1, x7_1, (Value.int IntKind.i64 0)] [0, 1, 7, 8] fun nx1 e => S52_l1 nx1 ret pn e) pn
def mo52 : Nat → Mo := fun _ => .done
def lv52 : Nat → List Nat
  | 2 => [0, 1, 7, 8]
  | _ => []
theorem ok52 : okC Tryd.f52.ntmps mo52 (Tryd.f52.body.getD .skip) = true := by kernel_rfl
theorem eq52 (a0 a1 : Value) (ret : Value → C) (pn : Pn) : D P mo52 lv52 pn (Tryd.f52.body.getD .skip) (finQ P Tryd.f52.results ret) (env0 [a0, a1]) = S52 a0 a1 ret pn := by kernel_rfl
theorem c52 {a0 a1 : Value} {R : Ending → World → Prop} {w : World} (h : S52 a0 a1 (fun v w => R (.returned v) w) (fun c w => R (.panicked c) w) w) : Calls P 52 #[a0, a1] w R :=
  callsD mixed mo52 lv52 Tryd.func52 rfl (Nat.le_of_ble_eq_true rfl) ok52 ((congrFun (eq52 a0 a1 _ _) w).mpr h)
theorem en52 (args : Array Value) (w : World) : (callFunc 52 args).run P w = .ok (.enter 52 args) w := by kernel_rfl

/-! ### evenhand / code.Known -/
def S55 (a0 : Value) (ret : Value → C) (pn : Pn) : C :=
 nextS P (binN .geq 3 (Operand.tmp 3) (Operand.const (Value.int IntKind.i64 1)) a0 (Value.int IntKind.i64 1)) (fun x4_1 =>
 grdS x4_1 true (fun K => K a0) fun x6_2 =>
 grdS x4_1 true (fun K => nextS P (binN .leq 3 (Operand.tmp 6) (Operand.const (Value.int IntKind.i64 25)) x6_2 (Value.int IntKind.i64 25)) K pn) fun x7_3 =>
 nextS P (pickN x4_1 x7_3 (Value.bool false)) (fun x8_4 =>
 ret x8_4) pn) pn
def mo55 : Nat → Mo := fun _ => .done
def lv55 : Nat → List Nat := fun _ => []
theorem ok55 : okC Tryd.f55.ntmps mo55 (Tryd.f55.body.getD .skip) = true := by kernel_rfl
theorem eq55 (a0 : Value) (ret : Value → C) (pn : Pn) : D P mo55 lv55 pn (Tryd.f55.body.getD .skip) (finQ P Tryd.f55.results ret) (env0 [a0]) = S55 a0 ret pn := by kernel_rfl
theorem c55 {a0 : Value} {R : Ending → World → Prop} {w : World} (h : S55 a0 (fun v w => R (.returned v) w) (fun c w => R (.panicked c) w) w) : Calls P 55 #[a0] w R :=
  callsD mixed mo55 lv55 Tryd.func55 rfl (Nat.le_of_ble_eq_true rfl) ok55 ((congrFun (eq55 a0 _ _) w).mpr h)
theorem en55 (args : Array Value) (w : World) : (callFunc 55 args).run P w = .ok (.enter 55 args) w := by kernel_rfl

/-! ### evenhand / spec.Fixed -/
def S58 (a0 a1 : Value) (ret : Value → C) (pn : Pn) : C :=
 nextS P (V (Instr.box 46 a0)) (fun x2_1 =>
 nextS P (V (Instr.box 3 a1)) (fun x3_2 =>
 nextS P (V (Instr.loadAt 3 x3_2)) (fun x6_3 =>
 nextS P (binN .geq 3 (Operand.tmp 6) (Operand.const (Value.int IntKind.i64 0)) x6_3 (Value.int IntKind.i64 0)) (fun x7_4 =>
 grdS x7_4 true (fun K => nextS P (V (Instr.loadAt 3 x3_2)) K pn) fun x9_5 =>
 grdS x7_4 true (fun K => nextS P (V (Instr.fieldAt 46 x2_1 1)) K pn) fun x10_6 =>
 grdS x7_4 true (fun K => nextS P (V (Instr.loadAt 3 x10_6)) K pn) fun x11_7 =>
 grdS x7_4 true (fun K => nextS P (binN .lss 3 (Operand.tmp 9) (Operand.tmp 11) x9_5 x11_7) K pn) fun x12_8 =>
 nextS P (pickN x7_4 x12_8 (Value.bool false)) (fun x13_9 =>
 grdS x13_9 true (fun K => nextS P (V (Instr.fieldAt 46 x2_1 4)) K pn) fun x16_10 =>
 grdS x13_9 true (fun K => nextS P (V (Instr.loadAt 35 x16_10)) K pn) fun x17_11 =>
 grdS x13_9 true (fun K => nextS P (V (Instr.makeFunc (Fn.func 66) #[] #[x3_2])) K pn) fun x18_12 =>
 grdS x13_9 true (fun K => callS P 65 #[x17_11, x18_12] K pn) fun x19_13 =>
 grdS x13_9 true (fun K => nextS P (V (Op.unary .not x19_13)) K pn) fun x20_14 =>
 nextS P (pickN x13_9 x20_14 (Value.bool false)) (fun x21_15 =>
 ret x21_15) pn) pn) pn) pn) pn) pn
def mo58 : Nat → Mo := fun _ => .done
def lv58 : Nat → List Nat := fun _ => []
theorem ok58 : okC Tryd.f58.ntmps mo58 (Tryd.f58.body.getD .skip) = true := by kernel_rfl
theorem eq58 (a0 a1 : Value) (ret : Value → C) (pn : Pn) : D P mo58 lv58 pn (Tryd.f58.body.getD .skip) (finQ P Tryd.f58.results ret) (env0 [a0, a1]) = S58 a0 a1 ret pn := by kernel_rfl
theorem c58 {a0 a1 : Value} {R : Ending → World → Prop} {w : World} (h : S58 a0 a1 (fun v w => R (.returned v) w) (fun c w => R (.panicked c) w) w) : Calls P 58 #[a0, a1] w R :=
  callsD mixed mo58 lv58 Tryd.func58 rfl (Nat.le_of_ble_eq_true rfl) ok58 ((congrFun (eq58 a0 a1 _ _) w).mpr h)
theorem en58 (args : Array Value) (w : World) : (callFunc 58 args).run P w = .ok (.enter 58 args) w := by kernel_rfl

/-! ### evenhand / fold.Fold -/
def S59_l2 (nx1 : List Value → C) (nx2 : List Value → C) (ret : Value → C) (pn : Pn) (e : Env) : C :=
 nextS P (binN .lss 3 (Operand.tmp 14) (Operand.tmp 13) (e 14) (e 13)) (fun x15_8 =>
 condS x15_8
 (callS P 68 #[(e 3), (e 14)] (fun x19_9 =>
 condS x19_9
 (nx1 [(e 3)])
 (nextS P (binN .add 3 (Operand.tmp 14) (Operand.const (Value.int IntKind.i64 1)) (e 14) (Value.int IntKind.i64 1)) (fun x20_10 =>
 nx2 [(e 3), (e 13), x20_10]) pn)) pn)
 (nextS P (nilN (e 3)) (fun x22_11 =>
 nextS P (V (Instr.fieldAt 137 x22_11 0)) (fun x23_12 =>
 nextS P (V (Instr.loadAt 35 x23_12)) (fun x24_13 =>
 ret x24_13) pn) pn) pn)) pn
def S59_l1 (nx1 : List Value → C) (ret : Value → C) (pn : Pn) (e : Env) : C :=
 nextS P (nilN (e 3)) (fun x10_4 =>
 nextS P (V (Instr.fieldAt 137 x10_4 0)) (fun x11_5 =>
 nextS P (V (Instr.loadAt 35 x11_5)) (fun x12_6 =>
 nextS P (bltN .len #[35] 3 #[false] #[x12_6]) (fun x13_7 =>
 LoopS [(e 3), x13_7, (Value.int IntKind.i64 0)] [3, 13, 14] fun nx2 e => S59_l2 nx1 nx2 ret pn e) pn) pn) pn) pn
def S59 (a0 : Value) (ret : Value → C) (pn : Pn) : C :=
 callS P 19 #[a0] (fun x6_1 =>
 nextS P (V (Instr.build 137 #[(0, x6_1)])) (fun x7_2 =>
 nextS P (V (Instr.box 137 x7_2)) (fun x8_3 =>
 LoopS [x8_3] [3] fun nx1 e => S59_l1 nx1 ret pn e) pn) pn) pn
def mo59 : Nat → Mo := fun _ => .done
def lv59 : Nat → List Nat
  | 2 => [3]
  | 3 => [3, 13, 14]
  | _ => []
theorem ok59_0 : okC Tryd.f59.ntmps mo59 (cl (Tryd.f59.body.getD .skip)) = true := by kernel_rfl
theorem ok59_1 : okC Tryd.f59.ntmps mo59 (cl (ci (cr (Tryd.f59.body.getD .skip)))) = true := by kernel_rfl
theorem ok59_2 : okC Tryd.f59.ntmps mo59 (cr (cr (ci (cr (Tryd.f59.body.getD .skip))))) = true := by kernel_rfl
theorem eq59 (a0 : Value) (ret : Value → C) (pn : Pn) : DS P mo59 lv59 pn (cl (Tryd.f59.body.getD .skip)) (cl (ci (cr (Tryd.f59.body.getD .skip)))) (cr (cr (ci (cr (Tryd.f59.body.getD .skip))))) 0 (finQ P Tryd.f59.results ret) (env0 [a0]) = S59 a0 ret pn := by kernel_rfl
theorem c59 {a0 : Value} {R : Ending → World → Prop} {w : World} (h : S59 a0 (fun v w => R (.returned v) w) (fun c w => R (.panicked c) w) w) : Calls P 59 #[a0] w R :=
  callsDS mixed mo59 lv59 Tryd.func59 (by kernel_rfl) (Nat.le_of_ble_eq_true rfl) ok59_0 ok59_1 ok59_2 (by kernel_rfl) ((congrFun (eq59 a0 _ _) w).mpr h)
theorem en59 (args : Array Value) (w : World) : (callFunc 59 args).run P w = .ok (.enter 59 args) w := by kernel_rfl

/-! ### slices.ContainsFunc[[]evenhand / code.Ins,evenhand / code.Ins] -/
def S65 (a0 a1 : Value) (ret : Value → C) (pn : Pn) : C :=
 callS P 75 #[a0, a1] (fun x7_1 =>
 nextS P (binN .geq 3 (Operand.tmp 7) (Operand.const (Value.int IntKind.i64 0)) x7_1 (Value.int IntKind.i64 0)) (fun x8_2 =>
 ret x8_2) pn) pn
def mo65 : Nat → Mo := fun _ => .done
def lv65 : Nat → List Nat := fun _ => []
theorem ok65 : okC Tryd.f65.ntmps mo65 (Tryd.f65.body.getD .skip) = true := by kernel_rfl
theorem eq65 (a0 a1 : Value) (ret : Value → C) (pn : Pn) : D P mo65 lv65 pn (Tryd.f65.body.getD .skip) (finQ P Tryd.f65.results ret) (env0 [a0, a1]) = S65 a0 a1 ret pn := by kernel_rfl
theorem c65 {a0 a1 : Value} {R : Ending → World → Prop} {w : World} (h : S65 a0 a1 (fun v w => R (.returned v) w) (fun c w => R (.panicked c) w) w) : Calls P 65 #[a0, a1] w R :=
  callsD mixed mo65 lv65 Tryd.func65 rfl (Nat.le_of_ble_eq_true rfl) ok65 ((congrFun (eq65 a0 a1 _ _) w).mpr h)
theorem en65 (args : Array Value) (w : World) : (callFunc 65 args).run P w = .ok (.enter 65 args) w := by kernel_rfl

/-! ### evenhand / spec.Fixed$1 -/
def S66 (a0 a1 : Value) (ret : Value → C) (pn : Pn) : C :=
 nextS P (V (Instr.box 51 a0)) (fun x2_1 =>
 nextS P (V (Instr.loadAt 51 x2_1)) (fun x4_2 =>
 nextS P (V (Instr.loadAt 3 a1)) (fun x5_3 =>
 callS P 67 #[x4_2, x5_3] (fun x6_4 =>
 ret x6_4) pn) pn) pn) pn
def mo66 : Nat → Mo := fun _ => .done
def lv66 : Nat → List Nat := fun _ => []
theorem ok66 : okC Tryd.f66.ntmps mo66 (Tryd.f66.body.getD .skip) = true := by kernel_rfl
theorem eq66 (a0 a1 : Value) (ret : Value → C) (pn : Pn) : D P mo66 lv66 pn (Tryd.f66.body.getD .skip) (finQ P Tryd.f66.results ret) (env0 [a0, a1]) = S66 a0 a1 ret pn := by kernel_rfl
theorem c66 {a0 a1 : Value} {R : Ending → World → Prop} {w : World} (h : S66 a0 a1 (fun v w => R (.returned v) w) (fun c w => R (.panicked c) w) w) : Calls P 66 #[a0, a1] w R :=
  callsD mixed mo66 lv66 Tryd.func66 rfl (Nat.le_of_ble_eq_true rfl) ok66 ((congrFun (eq66 a0 a1 _ _) w).mpr h)
theorem en66 (args : Array Value) (w : World) : (callFunc 66 args).run P w = .ok (.enter 66 args) w := by kernel_rfl

/-! ### evenhand / spec.sets -/
def S67 (a0 a1 : Value) (ret : Value → C) (pn : Pn) : C :=
 nextS P (V (Instr.box 51 a0)) (fun x2_1 =>
 nextS P (V (Instr.fieldAt 51 x2_1 0)) (fun x5_2 =>
 nextS P (V (Instr.loadAt 3 x5_2)) (fun x6_3 =>
 nextS P (binN .eql 3 (Operand.tmp 6) (Operand.const (Value.int IntKind.i64 3)) x6_3 (Value.int IntKind.i64 3)) (fun x7_4 =>
 grdS x7_4 false (fun K => nextS P (V (Instr.fieldAt 51 x2_1 0)) K pn) fun x9_5 =>
 grdS x7_4 false (fun K => nextS P (V (Instr.loadAt 3 x9_5)) K pn) fun x10_6 =>
 grdS x7_4 false (fun K => nextS P (binN .eql 3 (Operand.tmp 10) (Operand.const (Value.int IntKind.i64 21)) x10_6 (Value.int IntKind.i64 21)) K pn) fun x11_7 =>
 nextS P (pickN x7_4 (Value.bool true) x11_7) (fun x12_8 =>
 grdS x12_8 true (fun K => nextS P (V (Instr.fieldAt 51 x2_1 1)) K pn) fun x14_9 =>
 grdS x12_8 true (fun K => nextS P (V (Instr.loadAt 3 x14_9)) K pn) fun x15_10 =>
 grdS x12_8 true (fun K => K a1) fun x16_11 =>
 grdS x12_8 true (fun K => nextS P (binN .eql 3 (Operand.tmp 15) (Operand.tmp 16) x15_10 x16_11) K pn) fun x17_12 =>
 nextS P (pickN x12_8 x17_12 (Value.bool false)) (fun x18_13 =>
 ret x18_13) pn) pn) pn) pn) pn) pn
def mo67 : Nat → Mo := fun _ => .done
def lv67 : Nat → List Nat := fun _ => []
theorem ok67 : okC Tryd.f67.ntmps mo67 (Tryd.f67.body.getD .skip) = true := by kernel_rfl
theorem eq67 (a0 a1 : Value) (ret : Value → C) (pn : Pn) : D P mo67 lv67 pn (Tryd.f67.body.getD .skip) (finQ P Tryd.f67.results ret) (env0 [a0, a1]) = S67 a0 a1 ret pn := by kernel_rfl
theorem c67 {a0 a1 : Value} {R : Ending → World → Prop} {w : World} (h : S67 a0 a1 (fun v w => R (.returned v) w) (fun c w => R (.panicked c) w) w) : Calls P 67 #[a0, a1] w R :=
  callsD mixed mo67 lv67 Tryd.func67 rfl (Nat.le_of_ble_eq_true rfl) ok67 ((congrFun (eq67 a0 a1 _ _) w).mpr h)
theorem en67 (args : Array Value) (w : World) : (callFunc 67 args).run P w = .ok (.enter 67 args) w := by kernel_rfl

/-! ### (*evenhand / fold.folder).rule -/
def S68 (a0 a1 : Value) (ret : Value → C) (pn : Pn) : C :=
 nextS P (nilN a0) (fun x7_1 =>
 nextS P (V (Instr.fieldAt 137 x7_1 0)) (fun x8_2 =>
 nextS P (V (Instr.loadAt 35 x8_2)) (fun x9_3 =>
 nextS P (V (Instr.indexAt 35 x9_3 a1)) (fun x11_4 =>
 nextS P (V (Instr.loadAt 51 x11_4)) (fun x12_5 =>
 nextS P (V (Instr.alloc 51 true (.tuple #[]))) (fun x5_6 =>
 nextS P (U (Instr.storeAt 51 x5_6 x12_5)) (fun _ =>
 nextS P (V (Instr.fieldAt 51 x5_6 0)) (fun x14_8 =>
 nextS P (V (Instr.loadAt 3 x14_8)) (fun x15_9 =>
 nextS P (binN .eql 3 (Operand.tmp 15) (Operand.const (Value.int IntKind.i64 15)) x15_9 (Value.int IntKind.i64 15)) (fun x16_10 =>
 grdS x16_10 true (fun K => nextS P (V (Instr.fieldAt 51 x5_6 1)) K pn) fun x18_11 =>
 grdS x16_10 true (fun K => nextS P (V (Instr.loadAt 3 x18_11)) K pn) fun x19_12 =>
 grdS x16_10 true (fun K => K a1) fun x20_13 =>
 grdS x16_10 true (fun K => nextS P (binN .add 3 (Operand.tmp 20) (Operand.const (Value.int IntKind.i64 1)) x20_13 (Value.int IntKind.i64 1)) K pn) fun x21_14 =>
 grdS x16_10 true (fun K => nextS P (binN .eql 3 (Operand.tmp 19) (Operand.tmp 21) x19_12 x21_14) K pn) fun x22_15 =>
 nextS P (pickN x16_10 x22_15 (Value.bool false)) (fun x23_16 =>
 condS x23_16
 (callS P 76 #[a0, a1, (Value.int IntKind.i64 1), (Value.slice none 0 0)] (fun x26_17 =>
 ret (Value.bool true)) pn)
 (nextS P (V (Instr.fieldAt 51 x5_6 0)) (fun x28_18 =>
 nextS P (V (Instr.loadAt 3 x28_18)) (fun x29_19 =>
 nextS P (binN .eql 3 (Operand.tmp 29) (Operand.const (Value.int IntKind.i64 1)) x29_19 (Value.int IntKind.i64 1)) (fun x30_20 =>
 grdS x30_20 true (fun K => K a0) fun x32_21 =>
 grdS x30_20 true (fun K => K a1) fun x33_22 =>
 grdS x30_20 true (fun K => nextS P (binN .add 3 (Operand.tmp 33) (Operand.const (Value.int IntKind.i64 1)) x33_22 (Value.int IntKind.i64 1)) K pn) fun x34_23 =>
 grdS x30_20 true (fun K => callS P 77 #[x32_21, x34_23] K pn) fun x35_24 =>
 nextS P (pickN x30_20 x35_24 (Value.bool false)) (fun x36_25 =>
 condS x36_25
 (callS P 78 #[a0, a1] (fun x39_26 =>
 ret x39_26) pn)
 (ret (Value.bool false))) pn) pn) pn) pn)) pn) pn) pn) pn) pn) pn) pn) pn) pn) pn) pn
def mo68 : Nat → Mo := fun _ => .done
def lv68 : Nat → List Nat := fun _ => []
theorem ok68 : okC Tryd.f68.ntmps mo68 (Tryd.f68.body.getD .skip) = true := by kernel_rfl
theorem eq68 (a0 a1 : Value) (ret : Value → C) (pn : Pn) : D P mo68 lv68 pn (Tryd.f68.body.getD .skip) (finQ P Tryd.f68.results ret) (env0 [a0, a1]) = S68 a0 a1 ret pn := by kernel_rfl
theorem c68 {a0 a1 : Value} {R : Ending → World → Prop} {w : World} (h : S68 a0 a1 (fun v w => R (.returned v) w) (fun c w => R (.panicked c) w) w) : Calls P 68 #[a0, a1] w R :=
  callsD mixed mo68 lv68 Tryd.func68 rfl (Nat.le_of_ble_eq_true rfl) ok68 ((congrFun (eq68 a0 a1 _ _) w).mpr h)
theorem en68 (args : Array Value) (w : World) : (callFunc 68 args).run P w = .ok (.enter 68 args) w := by kernel_rfl

/-! ### slices.IndexFunc[[]evenhand / code.Ins,evenhand / code.Ins] -/
def S75_l1 (nx1 : List Value → C) (ret : Value → C) (pn : Pn) (e : Env) : C :=
 nextS P (binN .lss 3 (Operand.tmp 8) (Operand.tmp 7) (e 8) (e 7)) (fun x9_2 =>
 condS x9_2
 (nextS P (V (Instr.indexAt 35 (e 0) (e 8))) (fun x14_3 =>
 nextS P (V (Instr.loadAt 51 x14_3)) (fun x15_4 =>
 nextS P (callVN (e 1) #[x15_4]) (fun x16_5 =>
 condS x16_5
 (ret (e 8))
 (nextS P (binN .add 3 (Operand.tmp 8) (Operand.const (Value.int IntKind.i64 1)) (e 8) (Value.int IntKind.i64 1)) (fun x18_6 =>
 nx1 [(e 0), (e 1), (e 7), x18_6]) pn)) pn) pn) pn)
 (ret (Value.int IntKind.i64 (-1)))) pn
def S75 (a0 a1 : Value) (ret : Value → C) (pn : Pn) : C :=
 nextS P (bltN .len #[35] 3 #[false] #[a0]) (fun x7_1 =>
 LoopS [a0, a1, x7_1, (Value.int IntKind.i64 0)] [0, 1, 7, 8] fun nx1 e => S75_l1 nx1 ret pn e) pn
def mo75 : Nat → Mo := fun _ => .done
def lv75 : Nat → List Nat
  | 2 => [0, 1, 7, 8]
  | _ => []
theorem ok75 : okC Tryd.f75.ntmps mo75 (Tryd.f75.body.getD .skip) = true := by kernel_rfl
theorem eq75 (a0 a1 : Value) (ret : Value → C) (pn : Pn) : D P mo75 lv75 pn (Tryd.f75.body.getD .skip) (finQ P Tryd.f75.results ret) (env0 [a0, a1]) = S75 a0 a1 ret pn := by kernel_rfl
theorem c75 {a0 a1 : Value} {R : Ending → World → Prop} {w : World} (h : S75 a0 a1 (fun v w => R (.returned v) w) (fun c w => R (.panicked c) w) w) : Calls P 75 #[a0, a1] w R :=
  callsD mixed mo75 lv75 Tryd.func75 rfl (Nat.le_of_ble_eq_true rfl) ok75 ((congrFun (eq75 a0 a1 _ _) w).mpr h)
theorem en75 (args : Array Value) (w : World) : (callFunc 75 args).run P w = .ok (.enter 75 args) w := by kernel_rfl

/-! ### (*evenhand / fold.folder).replace -/
def S76_k2 (nx1 : List Value → C) (ret : Value → C) (pn : Pn) (y0 y1 y2 y3 y27 y28 : Value) : C :=
 nextS P (binN .add 3 (Operand.tmp 28) (Operand.const (Value.int IntKind.i64 1)) y28 (Value.int IntKind.i64 1)) (fun x66_40 =>
 nx1 [y0, y1, y2, y3, y27, x66_40]) pn
def S76_l1 (nx1 : List Value → C) (ret : Value → C) (pn : Pn) (e : Env) : C :=
 nextS P (binN .lss 3 (Operand.tmp 28) (Operand.tmp 27) (e 28) (e 27)) (fun x29_13 =>
 condS x29_13
 (nextS P (nilN (e 0)) (fun x32_14 =>
 nextS P (V (Instr.fieldAt 137 x32_14 0)) (fun x33_15 =>
 nextS P (V (Instr.loadAt 35 x33_15)) (fun x34_16 =>
 nextS P (V (Instr.indexAt 35 x34_16 (e 28))) (fun x36_17 =>
 nextS P (nilN x36_17) (fun x38_18 =>
 nextS P (V (Instr.loadAt 51 x38_18)) (fun x39_19 =>
 callS P 82 #[x39_19] (fun x40_20 =>
 grdS x40_20 true (fun K => K x36_17) fun x42_21 =>
 grdS x40_20 true (fun K => nextS P (nilN x42_21) K pn) fun x43_22 =>
 grdS x40_20 true (fun K => nextS P (V (Instr.fieldAt 51 x43_22 1)) K pn) fun x44_23 =>
 grdS x40_20 true (fun K => nextS P (V (Instr.loadAt 3 x44_23)) K pn) fun x45_24 =>
 grdS x40_20 true (fun K => K (e 1)) fun x46_25 =>
 grdS x40_20 true (fun K => nextS P (binN .gtr 3 (Operand.tmp 45) (Operand.tmp 46) x45_24 x46_25) K pn) fun x47_26 =>
 nextS P (pickN x40_20 x47_26 (Value.bool false)) (fun x48_27 =>
 condS x48_27
 (nextS P (nilN x36_17) (fun x51_28 =>
 nextS P (V (Instr.fieldAt 51 x51_28 1)) (fun x52_29 =>
 nextS P (V (Instr.loadAt 3 x52_29)) (fun x53_30 =>
 nextS P (binN .sub 3 (Operand.tmp 53) (Operand.tmp 54) x53_30 (e 2)) (fun x55_31 =>
 nextS P (bltN .len #[35] 3 #[false] #[(e 3)]) (fun x57_32 =>
 nextS P (binN .add 3 (Operand.tmp 55) (Operand.tmp 57) x55_31 x57_32) (fun x58_33 =>
 nextS P (bltN .len #[35] 3 #[false] #[(e 3)]) (fun x61_34 =>
 nextS P (binN .add 3 (Operand.tmp 59) (Operand.tmp 61) (e 1) x61_34) (fun x62_35 =>
 nextS P (bltN .max #[3, 3] 3 #[false, false] #[x58_33, x62_35]) (fun x63_36 =>
 nextS P (nilN x36_17) (fun x64_37 =>
 nextS P (V (Instr.fieldAt 51 x64_37 1)) (fun x65_38 =>
 nextS P (U (Instr.storeAt 3 x65_38 x63_36)) (fun _ =>
 S76_k2 nx1 ret pn (e 0) (e 1) (e 2) (e 3) (e 27) (e 28)) pn) pn) pn) pn) pn) pn) pn) pn) pn) pn) pn) pn)
 (S76_k2 nx1 ret pn (e 0) (e 1) (e 2) (e 3) (e 27) (e 28))) pn) pn) pn) pn) pn) pn) pn) pn)
 (ret (.tuple #[]))) pn
def S76 (a0 a1 a2 a3 : Value) (ret : Value → C) (pn : Pn) : C :=
 nextS P (nilN a0) (fun x12_1 =>
 nextS P (V (Instr.fieldAt 137 x12_1 0)) (fun x13_2 =>
 nextS P (V (Instr.loadAt 35 x13_2)) (fun x14_3 =>
 nextS P (binN .add 3 (Operand.tmp 16) (Operand.tmp 17) a1 a2) (fun x18_4 =>
 callS P 81 #[x14_3, a1, x18_4, a3] (fun x20_5 =>
 nextS P (nilN a0) (fun x21_6 =>
 nextS P (V (Instr.fieldAt 137 x21_6 0)) (fun x22_7 =>
 nextS P (U (Instr.storeAt 35 x22_7 x20_5)) (fun _ =>
 nextS P (nilN a0) (fun x24_9 =>
 nextS P (V (Instr.fieldAt 137 x24_9 0)) (fun x25_10 =>
 nextS P (V (Instr.loadAt 35 x25_10)) (fun x26_11 =>
 nextS P (bltN .len #[35] 3 #[false] #[x26_11]) (fun x27_12 =>
 LoopS [a0, a1, a2, a3, x27_12, (Value.int IntKind.i64 0)] [0, 1, 2, 3, 27, 28] fun nx1 e => S76_l1 nx1 ret pn e) pn) pn) pn) pn) pn) pn) pn) pn) pn) pn) pn) pn
def mo76 : Nat → Mo := fun _ => .done
def lv76 : Nat → List Nat
  | 2 => [0, 1, 2, 3, 27, 28]
  | _ => []
theorem ok76 : okC Tryd.f76.ntmps mo76 (Tryd.f76.body.getD .skip) = true := by kernel_rfl
theorem eq76 (a0 a1 a2 a3 : Value) (ret : Value → C) (pn : Pn) : D P mo76 lv76 pn (Tryd.f76.body.getD .skip) (finQ P Tryd.f76.results ret) (env0 [a0, a1, a2, a3]) = S76 a0 a1 a2 a3 ret pn := by kernel_rfl
theorem c76 {a0 a1 a2 a3 : Value} {R : Ending → World → Prop} {w : World} (h : S76 a0 a1 a2 a3 (fun v w => R (.returned v) w) (fun c w => R (.panicked c) w) w) : Calls P 76 #[a0, a1, a2, a3] w R :=
  callsD mixed mo76 lv76 Tryd.func76 rfl (Nat.le_of_ble_eq_true rfl) ok76 ((congrFun (eq76 a0 a1 a2 a3 _ _) w).mpr h)
theorem en76 (args : Array Value) (w : World) : (callFunc 76 args).run P w = .ok (.enter 76 args) w := by kernel_rfl

/-! ### (*evenhand / fold.folder).free -/
def S77 (a0 a1 : Value) (ret : Value → C) (pn : Pn) : C :=
 nextS P (V (Instr.box 3 a1)) (fun x3_1 =>
 DrawS fun S =>
 takeS S P (V (Instr.loadAt 3 x3_1)) fun x5_2 =>
 pureS P (nilN a0) fun x7_3 =>
 pureS P (V (Instr.fieldAt 137 x7_3 0)) fun x8_4 =>
 takeS S P (V (Instr.loadAt 35 x8_4)) fun x9_5 =>
 takeS S P (bltN .len #[35] 3 #[false] #[x9_5]) fun x10_6 =>
 pureS P (binN .lss 3 (Operand.tmp 5) (Operand.tmp 10) x5_2 x10_6) fun x11_7 =>
 grdS x11_7 true (fun K => K a0) fun x13_8 =>
 grdS x11_7 true (pureS P (nilN x13_8)) fun x14_9 =>
 grdS x11_7 true (pureS P (V (Instr.fieldAt 137 x14_9 0))) fun x15_10 =>
 grdS x11_7 true (takeS S P (V (Instr.loadAt 35 x15_10))) fun x16_11 =>
 grdS x11_7 true (pureS P (V (Instr.makeFunc (Fn.func 83) #[] #[x3_1]))) fun x17_12 =>
 grdS x11_7 true (fun K => callS P 65 #[x16_11, x17_12] K pn) fun x18_13 w => S w ∧ (grdS x11_7 true (pureS P (V (Op.unary .not x18_13))) fun x19_14 =>
 pureS P (pickN x11_7 x19_14 (Value.bool false)) fun x20_15 =>
 ret x20_15) w) pn
def mo77 : Nat → Mo
  | 1 => (Mo.take 0 (Mo.take 1 (Mo.take 2 (Mo.take 3 (Mo.take 4 (Mo.take 5 (Mo.take 6 (Mo.take 7 (Mo.take 8 (Mo.take 9 (Mo.take 10 (Mo.take 11 (Mo.take 12 (Mo.eff 13 (Mo.take 14 (Mo.take 15 (Mo.take 16 Mo.done)))))))))))))))))
  | _ => .done
def lv77 : Nat → List Nat := fun _ => []
theorem ok77 : okC Tryd.f77.ntmps mo77 (Tryd.f77.body.getD .skip) = true := by kernel_rfl
theorem eq77 (a0 a1 : Value) (ret : Value → C) (pn : Pn) : D P mo77 lv77 pn (Tryd.f77.body.getD .skip) (finQ P Tryd.f77.results ret) (env0 [a0, a1]) = S77 a0 a1 ret pn := by kernel_rfl
theorem c77 {a0 a1 : Value} {R : Ending → World → Prop} {w : World} (h : S77 a0 a1 (fun v w => R (.returned v) w) (fun c w => R (.panicked c) w) w) : Calls P 77 #[a0, a1] w R :=
  callsD mixed mo77 lv77 Tryd.func77 rfl (Nat.le_of_ble_eq_true rfl) ok77 ((congrFun (eq77 a0 a1 _ _) w).mpr h)
theorem en77 (args : Array Value) (w : World) : (callFunc 77 args).run P w = .ok (.enter 77 args) w := by kernel_rfl

/-! ### (*evenhand / fold.folder).behind -/
def S78_k1 (ret : Value → C) (pn : Pn) (y11 : Value) : C :=
 ret y11
def S78 (a0 a1 : Value) (ret : Value → C) (pn : Pn) : C :=
 DrawS fun S =>
 pureS P (nilN a0) fun x13_1 =>
 pureS P (V (Instr.fieldAt 137 x13_1 0)) fun x14_2 =>
 takeS S P (V (Instr.loadAt 35 x14_2)) fun x15_3 =>
 pureS P (V (Instr.indexAt 35 x15_3 a1)) fun x17_4 =>
 pureS P (V (Instr.fieldAt 51 x17_4 2)) fun x18_5 =>
 takeS S P (V (Instr.loadAt 2 x18_5)) fun x19_6 =>
 pureS P (nilN a0) fun x21_7 =>
 pureS P (V (Instr.fieldAt 137 x21_7 0)) fun x22_8 =>
 takeS S P (V (Instr.loadAt 35 x22_8)) fun x23_9 =>
 pureS P (binN .add 3 (Operand.tmp 24) (Operand.const (Value.int IntKind.i64 1)) a1 (Value.int IntKind.i64 1)) fun x25_10 =>
 pureS P (V (Instr.indexAt 35 x23_9 x25_10)) fun x26_11 =>
 takeS S P (V (Instr.loadAt 51 x26_11)) fun x27_12 =>
 nextS P (V (Instr.alloc 51 true (.tuple #[]))) (fun x6_13 w => S w ∧ (nextS P (U (Instr.storeAt 51 x6_13 x27_12)) (fun _ w => S w ∧ (nextS P (V (Instr.fieldAt 51 x6_13 0)) (fun x29_15 =>
 nextS P (V (Instr.loadAt 3 x29_15)) (fun x30_16 =>
 nextS P (binN .eql 3 (Operand.tmp 30) (Operand.const (Value.int IntKind.i64 4)) x30_16 (Value.int IntKind.i64 4)) (fun x31_17 =>
 grdS x31_17 false (fun K => nextS P (V (Instr.fieldAt 51 x6_13 0)) K pn) fun x33_18 =>
 grdS x31_17 false (fun K => nextS P (V (Instr.loadAt 3 x33_18)) K pn) fun x34_19 =>
 grdS x31_17 false (fun K => nextS P (binN .eql 3 (Operand.tmp 34) (Operand.const (Value.int IntKind.i64 5)) x34_19 (Value.int IntKind.i64 5)) K pn) fun x35_20 =>
 nextS P (pickN x31_17 (Value.bool true) x35_20) (fun x36_21 =>
 condS x36_21
 (nextS P (V (Instr.fieldAt 51 x6_13 0)) (fun x38_22 =>
 nextS P (V (Instr.loadAt 3 x38_22)) (fun x39_23 =>
 callS P 84 #[x39_23, x19_6, (Value.int IntKind.i64 0)] (fun x41_24 =>
 nextS P (V (Instr.extract x41_24 0)) (fun x42_25 =>
 nextS P (V (Instr.extract x41_24 1)) (fun x43_26 =>
 callS P 85 #[x42_25] (fun x47_27 =>
 nextS P (V (Instr.buildSlice 35 1 #[(0, x47_27)])) (fun x48_28 =>
 callS P 76 #[a0, a1, (Value.int IntKind.i64 2), x48_28] (fun x49_29 =>
 ret (Value.bool true)) pn) pn) pn) pn) pn) pn) pn) pn)
 (nextS P (V (Instr.fieldAt 51 x6_13 0)) (fun x51_30 =>
 nextS P (V (Instr.loadAt 3 x51_30)) (fun x52_31 =>
 nextS P (binN .eql 3 (Operand.tmp 52) (Operand.const (Value.int IntKind.i64 16)) x52_31 (Value.int IntKind.i64 16)) (fun x53_32 =>
 grdS x53_32 true (fun K => K x19_6) fun x55_33 =>
 grdS x53_32 true (fun K => nextS P (binN .eql 2 (Operand.tmp 55) (Operand.const (Value.int IntKind.i64 0)) x55_33 (Value.int IntKind.i64 0)) K pn) fun x56_34 =>
 nextS P (pickN x53_32 x56_34 (Value.bool false)) (fun x57_35 =>
 condS x57_35
 (nextS P (V (Instr.fieldAt 51 x6_13 1)) (fun x60_36 =>
 nextS P (V (Instr.loadAt 3 x60_36)) (fun x61_37 =>
 nextS P (V (Instr.build 51 #[(0, (Value.int IntKind.i64 15)), (1, x61_37)])) (fun x62_38 =>
 nextS P (V (Instr.buildSlice 35 1 #[(0, x62_38)])) (fun x63_39 =>
 callS P 76 #[a0, a1, (Value.int IntKind.i64 2), x63_39] (fun x64_40 =>
 ret (Value.bool true)) pn) pn) pn) pn) pn)
 (nextS P (V (Instr.fieldAt 51 x6_13 0)) (fun x66_41 =>
 nextS P (V (Instr.loadAt 3 x66_41)) (fun x67_42 =>
 nextS P (binN .eql 3 (Operand.tmp 67) (Operand.const (Value.int IntKind.i64 16)) x67_42 (Value.int IntKind.i64 16)) (fun x68_43 =>
 condS x68_43
 (callS P 76 #[a0, a1, (Value.int IntKind.i64 2), (Value.slice none 0 0)] (fun x71_44 =>
 ret (Value.bool true)) pn)
 (nextS P (V (Instr.fieldAt 51 x6_13 0)) (fun x73_45 =>
 nextS P (V (Instr.loadAt 3 x73_45)) (fun x74_46 =>
 nextS P (binN .neq 3 (Operand.tmp 74) (Operand.const (Value.int IntKind.i64 1)) x74_46 (Value.int IntKind.i64 1)) (fun x75_47 =>
 grdS x75_47 false (fun K => K a0) fun x77_48 =>
 grdS x75_47 false (fun K => K a1) fun x78_49 =>
 grdS x75_47 false (fun K => nextS P (binN .add 3 (Operand.tmp 78) (Operand.const (Value.int IntKind.i64 2)) x78_49 (Value.int IntKind.i64 2)) K pn) fun x79_50 =>
 grdS x75_47 false (fun K => callS P 77 #[x77_48, x79_50] K pn) fun x80_51 =>
 grdS x75_47 false (fun K => nextS P (V (Op.unary .not x80_51)) K pn) fun x81_52 =>
 nextS P (pickN x75_47 (Value.bool true) x81_52) (fun x82_53 =>
 condS x82_53
 (ret (Value.bool false))
 (nextS P (nilN a0) (fun x84_54 =>
 nextS P (V (Instr.fieldAt 137 x84_54 0)) (fun x85_55 =>
 nextS P (V (Instr.loadAt 35 x85_55)) (fun x86_56 =>
 nextS P (binN .add 3 (Operand.tmp 87) (Operand.const (Value.int IntKind.i64 2)) a1 (Value.int IntKind.i64 2)) (fun x88_57 =>
 nextS P (V (Instr.indexAt 35 x86_56 x88_57)) (fun x89_58 =>
 nextS P (V (Instr.fieldAt 51 x89_58 0)) (fun x90_59 =>
 nextS P (V (Instr.loadAt 3 x90_59)) (fun x91_60 =>
 nextS P (binN .lss 3 (Operand.tmp 92) (Operand.const (Value.int IntKind.i64 6)) x91_60 (Value.int IntKind.i64 6)) (fun x93_61 =>
 grdS x93_61 false (fun K => K x91_60) fun x95_62 =>
 grdS x93_61 false (fun K => nextS P (binN .gtr 3 (Operand.tmp 95) (Operand.const (Value.int IntKind.i64 14)) x95_62 (Value.int IntKind.i64 14)) K pn) fun x96_63 =>
 nextS P (pickN x93_61 (Value.bool true) x96_63) (fun x97_64 =>
 condS x97_64
 (ret (Value.bool false))
 (nextS P (V (Instr.fieldAt 51 x6_13 2)) (fun x101_65 =>
 nextS P (V (Instr.loadAt 2 x101_65)) (fun x102_66 =>
 callS P 84 #[x91_60, x19_6, x102_66] (fun x103_67 =>
 nextS P (V (Instr.extract x103_67 0)) (fun x104_68 =>
 nextS P (V (Instr.extract x103_67 1)) (fun x105_69 =>
 condS x105_69
 (callS P 85 #[x104_68] (fun x110_70 =>
 nextS P (V (Instr.buildSlice 35 1 #[(0, x110_70)])) (fun x111_71 =>
 callS P 76 #[a0, a1, (Value.int IntKind.i64 3), x111_71] (fun x112_72 =>
 S78_k1 ret pn x105_69) pn) pn) pn)
 (S78_k1 ret pn x105_69)) pn) pn) pn) pn) pn)) pn) pn) pn) pn) pn) pn) pn) pn) pn)) pn) pn) pn) pn)) pn) pn) pn)) pn) pn) pn) pn)) pn) pn) pn) pn) w) pn) w) pn
def mo78 : Nat → Mo
  | 1 => (Mo.take 0 (Mo.take 1 (Mo.take 2 (Mo.take 3 (Mo.take 4 (Mo.take 5 (Mo.take 6 (Mo.take 7 (Mo.take 8 (Mo.take 9 (Mo.take 10 (Mo.take 11 (Mo.take 12 (Mo.take 13 (Mo.take 14 (Mo.take 15 (Mo.eff 16 (Mo.take 17 (Mo.eff 18 Mo.done)))))))))))))))))))
  | _ => .done
def lv78 : Nat → List Nat := fun _ => []
theorem ok78 : okC Tryd.f78.ntmps mo78 (Tryd.f78.body.getD .skip) = true := by kernel_rfl
theorem eq78 (a0 a1 : Value) (ret : Value → C) (pn : Pn) : D P mo78 lv78 pn (Tryd.f78.body.getD .skip) (finQ P Tryd.f78.results ret) (env0 [a0, a1]) = S78 a0 a1 ret pn := by kernel_rfl
theorem c78 {a0 a1 : Value} {R : Ending → World → Prop} {w : World} (h : S78 a0 a1 (fun v w => R (.returned v) w) (fun c w => R (.panicked c) w) w) : Calls P 78 #[a0, a1] w R :=
  callsD mixed mo78 lv78 Tryd.func78 rfl (Nat.le_of_ble_eq_true rfl) ok78 ((congrFun (eq78 a0 a1 _ _) w).mpr h)
theorem en78 (args : Array Value) (w : World) : (callFunc 78 args).run P w = .ok (.enter 78 args) w := by kernel_rfl

/-! ### math / bits.TrailingZeros32 -/
def S79 (a0 : Value) (ret : Value → C) (pn : Pn) : C :=
 nextS P (binN .eql 140 (Operand.tmp 3) (Operand.const (Value.int IntKind.u32 0)) a0 (Value.int IntKind.u32 0)) (fun x4_1 =>
 condS x4_1
 (ret (Value.int IntKind.i64 32))
 (nextS P (V (Op.unary .neg a0)) (fun x7_2 =>
 nextS P (binN .and 140 (Operand.tmp 5) (Operand.tmp 7) a0 x7_2) (fun x8_3 =>
 nextS P (binN .mul 140 (Operand.tmp 8) (Operand.const (Value.int IntKind.u32 125613361)) x8_3 (Value.int IntKind.u32 125613361)) (fun x9_4 =>
 nextS P (binN .shr 140 (Operand.tmp 9) (Operand.const (Value.int IntKind.u64 27)) x9_4 (Value.int IntKind.u64 27)) (fun x10_5 =>
 nextS P (V (Instr.indexAt 153 (Value.pointer (some ⟨3, 0, none⟩)) x10_5)) (fun x11_6 =>
 nextS P (V (Instr.loadAt 5 x11_6)) (fun x12_7 =>
 nextS P (V (convert 5 3 x12_7)) (fun x13_8 =>
 ret x13_8) pn) pn) pn) pn) pn) pn) pn)) pn
def mo79 : Nat → Mo := fun _ => .done
def lv79 : Nat → List Nat := fun _ => []
theorem ok79 : okC Tryd.f79.ntmps mo79 (Tryd.f79.body.getD .skip) = true := by kernel_rfl
theorem eq79 (a0 : Value) (ret : Value → C) (pn : Pn) : D P mo79 lv79 pn (Tryd.f79.body.getD .skip) (finQ P Tryd.f79.results ret) (env0 [a0]) = S79 a0 ret pn := by kernel_rfl
theorem c79 {a0 : Value} {R : Ending → World → Prop} {w : World} (h : S79 a0 (fun v w => R (.returned v) w) (fun c w => R (.panicked c) w) w) : Calls P 79 #[a0] w R :=
  callsD mixed mo79 lv79 Tryd.func79 rfl (Nat.le_of_ble_eq_true rfl) ok79 ((congrFun (eq79 a0 _ _) w).mpr h)
theorem en79 (args : Array Value) (w : World) : (callFunc 79 args).run P w = .ok (.enter 79 args) w := by kernel_rfl

/-! ### slices.Replace[[]evenhand / code.Ins,evenhand / code.Ins] -/
def S81_k1 (ret : Value → C) (pn : Pn) (y9 : Value) : C :=
 ret y9
def S81 (a0 a1 a2 a3 : Value) (ret : Value → C) (pn : Pn) : C :=
 nextS P (V (Instr.sliceAt 35 a0 (some a1) (some a2) none)) (fun x18_1 =>
 nextS P (binN .eql 3 (Operand.tmp 19) (Operand.tmp 20) a1 a2) (fun x21_2 =>
 condS x21_2
 (callS P 86 #[a0, a1, a3] (fun x25_3 =>
 ret x25_3) pn)
 (nextS P (bltN .len #[35] 3 #[false] #[a0]) (fun x28_4 =>
 nextS P (binN .eql 3 (Operand.tmp 26) (Operand.tmp 28) a2 x28_4) (fun x29_5 =>
 condS x29_5
 (nextS P (V (Instr.sliceAt 35 a0 none (some a1) none)) (fun x32_6 =>
 nextS P (bltN .append #[35, 35] 35 #[false, false] #[x32_6, a3]) (fun x34_7 =>
 nextS P (bltN .len #[35] 3 #[false] #[x34_7]) (fun x36_8 =>
 nextS P (bltN .len #[35] 3 #[false] #[a0]) (fun x38_9 =>
 nextS P (binN .lss 3 (Operand.tmp 36) (Operand.tmp 38) x36_8 x38_9) (fun x39_10 =>
 condS x39_10
 (nextS P (bltN .len #[35] 3 #[false] #[x34_7]) (fun x42_11 =>
 nextS P (V (Instr.sliceAt 35 a0 (some x42_11) none none)) (fun x43_12 =>
 nextS P (bltN .clear #[35] 0 #[false] #[x43_12]) (fun _ =>
 S81_k1 ret pn x34_7) pn) pn) pn)
 (S81_k1 ret pn x34_7)) pn) pn) pn) pn) pn)
 (DrawS fun S =>
 pureS P (V (Instr.sliceAt 35 a0 none (some a1) none)) fun x47_14 =>
 takeS S P (bltN .len #[35] 3 #[false] #[x47_14]) fun x48_15 =>
 takeS S P (bltN .len #[35] 3 #[false] #[a3]) fun x50_16 =>
 pureS P (binN .add 3 (Operand.tmp 48) (Operand.tmp 50) x48_15 x50_16) fun x51_17 =>
 pureS P (V (Instr.sliceAt 35 a0 (some a2) none none)) fun x54_18 =>
 takeS S P (bltN .len #[35] 3 #[false] #[x54_18]) fun x55_19 =>
 pureS P (binN .add 3 (Operand.tmp 51) (Operand.tmp 55) x51_17 x55_19) fun x56_20 =>
 nextS P (bltN .cap #[35] 3 #[false] #[a0]) (fun x59_21 =>
 nextS P (binN .gtr 3 (Operand.tmp 57) (Operand.tmp 59) x56_20 x59_21) (fun x60_22 =>
 condS x60_22
 (nextS P (V (Instr.sliceAt 35 a0 none (some a1) none)) (fun x63_23 =>
 nextS P (binN .sub 3 (Operand.tmp 64) (Operand.tmp 65) x56_20 a1) (fun x66_24 =>
 nextS P (bltN .append #[35, 3] 35 #[false, false] #[x63_23, x66_24]) (fun x67_25 =>
 nextS P (V (Instr.sliceAt 35 x67_25 (some a1) none none)) (fun x70_26 =>
 nextS P (bltN .copy #[35, 35] 3 #[false, false] #[x70_26, a3]) (fun x72_27 =>
 DrawS fun S =>
 takeS S P (bltN .len #[35] 3 #[false] #[a3]) fun x76_28 =>
 pureS P (binN .add 3 (Operand.tmp 74) (Operand.tmp 76) a1 x76_28) fun x77_29 =>
 pureS P (V (Instr.sliceAt 35 x67_25 (some x77_29) none none)) fun x78_30 =>
 pureS P (V (Instr.sliceAt 35 a0 (some a2) none none)) fun x81_31 =>
 nextS P (bltN .copy #[35, 35] 3 #[false, false] #[x78_30, x81_31]) (fun x82_32 w => S w ∧ (ret x67_25) w) pn) pn) pn) pn) pn) pn)
 (nextS P (V (Instr.sliceAt 35 a0 none (some x56_20) none)) (fun x86_33 =>
 nextS P (bltN .len #[35] 3 #[false] #[a3]) (fun x89_34 =>
 nextS P (binN .add 3 (Operand.tmp 87) (Operand.tmp 89) a1 x89_34) (fun x90_35 =>
 nextS P (binN .leq 3 (Operand.tmp 90) (Operand.tmp 91) x90_35 a2) (fun x92_36 =>
 condS x92_36
 (nextS P (V (Instr.sliceAt 35 x86_33 (some a1) none none)) (fun x95_37 =>
 nextS P (bltN .copy #[35, 35] 3 #[false, false] #[x95_37, a3]) (fun x97_38 =>
 DrawS fun S =>
 takeS S P (bltN .len #[35] 3 #[false] #[a3]) fun x101_39 =>
 pureS P (binN .add 3 (Operand.tmp 99) (Operand.tmp 101) a1 x101_39) fun x102_40 =>
 pureS P (V (Instr.sliceAt 35 x86_33 (some x102_40) none none)) fun x103_41 =>
 pureS P (V (Instr.sliceAt 35 a0 (some a2) none none)) fun x106_42 =>
 nextS P (bltN .copy #[35, 35] 3 #[false, false] #[x103_41, x106_42]) (fun x107_43 w => S w ∧ (nextS P (V (Instr.sliceAt 35 a0 (some x56_20) none none)) (fun x110_44 =>
 nextS P (bltN .clear #[35] 0 #[false] #[x110_44]) (fun _ =>
 ret x86_33) pn) pn) w) pn) pn) pn)
 (nextS P (bltN .len #[35] 3 #[false] #[a3]) (fun x115_46 =>
 nextS P (binN .add 3 (Operand.tmp 113) (Operand.tmp 115) a1 x115_46) (fun x116_47 =>
 nextS P (V (Instr.sliceAt 35 x86_33 (some x116_47) none none)) (fun x117_48 =>
 callS P 87 #[x117_48, a3] (fun x119_49 =>
 nextS P (V (Op.unary .not x119_49)) (fun x120_50 =>
 condS x120_50
 (DrawS fun S =>
 takeS S P (bltN .len #[35] 3 #[false] #[a3]) fun x124_51 =>
 pureS P (binN .add 3 (Operand.tmp 122) (Operand.tmp 124) a1 x124_51) fun x125_52 =>
 pureS P (V (Instr.sliceAt 35 x86_33 (some x125_52) none none)) fun x126_53 =>
 pureS P (V (Instr.sliceAt 35 a0 (some a2) none none)) fun x129_54 =>
 nextS P (bltN .copy #[35, 35] 3 #[false, false] #[x126_53, x129_54]) (fun x130_55 w => S w ∧ (nextS P (V (Instr.sliceAt 35 x86_33 (some a1) none none)) (fun x133_56 =>
 nextS P (bltN .copy #[35, 35] 3 #[false, false] #[x133_56, a3]) (fun x135_57 =>
 ret x86_33) pn) pn) w) pn)
 (nextS P (bltN .len #[35] 3 #[false] #[a3]) (fun x138_58 =>
 nextS P (binN .sub 3 (Operand.tmp 139) (Operand.tmp 140) a2 a1) (fun x141_59 =>
 nextS P (binN .sub 3 (Operand.tmp 138) (Operand.tmp 141) x138_58 x141_59) (fun x142_60 =>
 nextS P (V (Instr.sliceAt 35 x86_33 (some a1) (some a2) none)) (fun x146_61 =>
 callS P 87 #[x146_61, a3] (fun x148_62 =>
 nextS P (V (Op.unary .not x148_62)) (fun x149_63 =>
 condS x149_63
 (DrawS fun S =>
 pureS P (V (Instr.sliceAt 35 x86_33 (some a1) (some a2) none)) fun x153_64 =>
 pureS P (V (Instr.sliceAt 35 a3 (some x142_60) none none)) fun x156_65 =>
 nextS P (bltN .copy #[35, 35] 3 #[false, false] #[x153_64, x156_65]) (fun x157_66 w => S w ∧ (DrawS fun S =>
 takeS S P (bltN .len #[35] 3 #[false] #[a0]) fun x160_67 =>
 pureS P (V (Instr.sliceAt 35 x86_33 (some x160_67) none none)) fun x161_68 =>
 pureS P (V (Instr.sliceAt 35 a3 none (some x142_60) none)) fun x164_69 =>
 nextS P (bltN .copy #[35, 35] 3 #[false, false] #[x161_68, x164_69]) (fun x165_70 w => S w ∧ (nextS P (V (Instr.sliceAt 35 x86_33 (some a1) none none)) (fun x168_71 =>
 callS P 88 #[x168_71, x142_60] (fun x170_72 =>
 ret x86_33) pn) pn) w) pn) w) pn)
 (nextS P (bltN .len #[35] 3 #[false] #[a0]) (fun x174_73 =>
 nextS P (V (Instr.sliceAt 35 x86_33 (some x174_73) none none)) (fun x175_74 =>
 callS P 87 #[x175_74, a3] (fun x177_75 =>
 nextS P (V (Op.unary .not x177_75)) (fun x178_76 =>
 condS x178_76
 (DrawS fun S =>
 takeS S P (bltN .len #[35] 3 #[false] #[a0]) fun x181_77 =>
 pureS P (V (Instr.sliceAt 35 x86_33 (some x181_77) none none)) fun x182_78 =>
 pureS P (V (Instr.sliceAt 35 a3 none (some x142_60) none)) fun x185_79 =>
 nextS P (bltN .copy #[35, 35] 3 #[false, false] #[x182_78, x185_79]) (fun x186_80 w => S w ∧ (DrawS fun S =>
 pureS P (V (Instr.sliceAt 35 x86_33 (some a1) (some a2) none)) fun x190_81 =>
 pureS P (V (Instr.sliceAt 35 a3 (some x142_60) none none)) fun x193_82 =>
 nextS P (bltN .copy #[35, 35] 3 #[false, false] #[x190_81, x193_82]) (fun x194_83 w => S w ∧ (nextS P (V (Instr.sliceAt 35 x86_33 (some a1) none none)) (fun x197_84 =>
 callS P 88 #[x197_84, x142_60] (fun x199_85 =>
 ret x86_33) pn) pn) w) pn) w) pn)
 (nextS P (V (Instr.sliceAt 35 a0 (some a2) none none)) (fun x204_86 =>
 callS P 89 #[a3, x204_86] (fun x205_87 =>
 nextS P (V (Instr.sliceAt 35 x86_33 (some a1) none none)) (fun x208_88 =>
 nextS P (bltN .copy #[35, 35] 3 #[false, false] #[x208_88, a3]) (fun x210_89 =>
 DrawS fun S =>
 takeS S P (bltN .len #[35] 3 #[false] #[a3]) fun x214_90 =>
 pureS P (binN .add 3 (Operand.tmp 212) (Operand.tmp 214) a1 x214_90) fun x215_91 =>
 pureS P (V (Instr.sliceAt 35 x86_33 (some x215_91) none none)) fun x216_92 =>
 pureS P (binN .add 3 (Operand.tmp 218) (Operand.tmp 219) a1 x205_87) fun x220_93 =>
 pureS P (V (Instr.sliceAt 35 x86_33 (some x220_93) none none)) fun x221_94 =>
 nextS P (bltN .copy #[35, 35] 3 #[false, false] #[x216_92, x221_94]) (fun x222_95 w => S w ∧ (ret x86_33) w) pn) pn) pn) pn) pn)) pn) pn) pn) pn)) pn) pn) pn) pn) pn) pn)) pn) pn) pn) pn) pn)) pn) pn) pn) pn)) pn) pn)) pn) pn)) pn) pn
def mo81 : Nat → Mo
  | 9 => (Mo.take 0 (Mo.take 1 (Mo.take 2 (Mo.take 3 (Mo.take 4 (Mo.take 5 (Mo.take 6 (Mo.take 7 (Mo.take 8 (Mo.take 9 (Mo.take 10 (Mo.take 11 (Mo.take 12 Mo.done)))))))))))))
  | 13 => (Mo.take 0 (Mo.take 1 (Mo.take 2 (Mo.take 3 (Mo.take 4 (Mo.take 5 (Mo.take 6 (Mo.take 7 (Mo.take 8 (Mo.eff 9 Mo.done))))))))))
  | 18 => (Mo.take 0 (Mo.take 1 (Mo.take 2 (Mo.take 3 (Mo.take 4 (Mo.take 5 (Mo.take 6 (Mo.take 7 (Mo.take 8 (Mo.eff 9 Mo.done))))))))))
  | 22 => (Mo.take 0 (Mo.take 1 (Mo.take 2 (Mo.take 3 (Mo.take 4 (Mo.take 5 (Mo.take 6 (Mo.take 7 (Mo.take 8 (Mo.eff 9 Mo.done))))))))))
  | 27 => (Mo.take 0 (Mo.take 1 (Mo.take 2 (Mo.take 3 (Mo.take 4 (Mo.take 5 (Mo.take 6 (Mo.eff 7 Mo.done))))))))
  | 28 => (Mo.take 0 (Mo.take 1 (Mo.take 2 (Mo.take 3 (Mo.take 4 (Mo.take 5 (Mo.take 6 (Mo.eff 7 Mo.done))))))))
  | 32 => (Mo.take 0 (Mo.take 1 (Mo.take 2 (Mo.take 3 (Mo.take 4 (Mo.take 5 (Mo.take 6 (Mo.eff 7 Mo.done))))))))
  | 33 => (Mo.take 0 (Mo.take 1 (Mo.take 2 (Mo.take 3 (Mo.take 4 (Mo.take 5 (Mo.take 6 (Mo.eff 7 Mo.done))))))))
  | 38 => (Mo.take 0 (Mo.take 1 (Mo.take 2 (Mo.take 3 (Mo.take 4 (Mo.take 5 (Mo.take 6 (Mo.take 7 (Mo.take 8 (Mo.take 9 (Mo.take 10 (Mo.eff 11 Mo.done))))))))))))
  | _ => .done
def lv81 : Nat → List Nat := fun _ => []
theorem ok81 : okC Tryd.f81.ntmps mo81 (Tryd.f81.body.getD .skip) = true := by kernel_rfl
theorem eq81 (a0 a1 a2 a3 : Value) (ret : Value → C) (pn : Pn) : D P mo81 lv81 pn (Tryd.f81.body.getD .skip) (finQ P Tryd.f81.results ret) (env0 [a0, a1, a2, a3]) = S81 a0 a1 a2 a3 ret pn := by kernel_rfl
theorem c81 {a0 a1 a2 a3 : Value} {R : Ending → World → Prop} {w : World} (h : S81 a0 a1 a2 a3 (fun v w => R (.returned v) w) (fun c w => R (.panicked c) w) w) : Calls P 81 #[a0, a1, a2, a3] w R :=
  callsD mixed mo81 lv81 Tryd.func81 rfl (Nat.le_of_ble_eq_true rfl) ok81 ((congrFun (eq81 a0 a1 a2 a3 _ _) w).mpr h)
theorem en81 (args : Array Value) (w : World) : (callFunc 81 args).run P w = .ok (.enter 81 args) w := by kernel_rfl

/-! ### evenhand / fold.jumps -/
def S82 (a0 : Value) (ret : Value → C) (pn : Pn) : C :=
 nextS P (V (Instr.box 51 a0)) (fun x1_1 =>
 nextS P (V (Instr.fieldAt 51 x1_1 0)) (fun x3_2 =>
 nextS P (V (Instr.loadAt 3 x3_2)) (fun x4_3 =>
 nextS P (binN .eql 3 (Operand.tmp 4) (Operand.const (Value.int IntKind.i64 15)) x4_3 (Value.int IntKind.i64 15)) (fun x5_4 =>
 grdS x5_4 false (fun K => nextS P (V (Instr.fieldAt 51 x1_1 0)) K pn) fun x7_5 =>
 grdS x5_4 false (fun K => nextS P (V (Instr.loadAt 3 x7_5)) K pn) fun x8_6 =>
 grdS x5_4 false (fun K => nextS P (binN .eql 3 (Operand.tmp 8) (Operand.const (Value.int IntKind.i64 16)) x8_6 (Value.int IntKind.i64 16)) K pn) fun x9_7 =>
 nextS P (pickN x5_4 (Value.bool true) x9_7) (fun x10_8 =>
 ret x10_8) pn) pn) pn) pn) pn
def mo82 : Nat → Mo := fun _ => .done
def lv82 : Nat → List Nat := fun _ => []
theorem ok82 : okC Tryd.f82.ntmps mo82 (Tryd.f82.body.getD .skip) = true := by kernel_rfl
theorem eq82 (a0 : Value) (ret : Value → C) (pn : Pn) : D P mo82 lv82 pn (Tryd.f82.body.getD .skip) (finQ P Tryd.f82.results ret) (env0 [a0]) = S82 a0 ret pn := by kernel_rfl
theorem c82 {a0 : Value} {R : Ending → World → Prop} {w : World} (h : S82 a0 (fun v w => R (.returned v) w) (fun c w => R (.panicked c) w) w) : Calls P 82 #[a0] w R :=
  callsD mixed mo82 lv82 Tryd.func82 rfl (Nat.le_of_ble_eq_true rfl) ok82 ((congrFun (eq82 a0 _ _) w).mpr h)
theorem en82 (args : Array Value) (w : World) : (callFunc 82 args).run P w = .ok (.enter 82 args) w := by kernel_rfl

/-! ### (*evenhand / fold.folder).free$1 -/
def S83 (a0 a1 : Value) (ret : Value → C) (pn : Pn) : C :=
 nextS P (V (Instr.box 51 a0)) (fun x2_1 =>
 nextS P (V (Instr.loadAt 51 x2_1)) (fun x4_2 =>
 callS P 82 #[x4_2] (fun x5_3 =>
 grdS x5_3 true (fun K => nextS P (V (Instr.fieldAt 51 x2_1 1)) K pn) fun x7_4 =>
 grdS x5_3 true (fun K => nextS P (V (Instr.loadAt 3 x7_4)) K pn) fun x8_5 =>
 grdS x5_3 true (fun K => nextS P (V (Instr.loadAt 3 a1)) K pn) fun x9_6 =>
 grdS x5_3 true (fun K => nextS P (binN .eql 3 (Operand.tmp 8) (Operand.tmp 9) x8_5 x9_6) K pn) fun x10_7 =>
 nextS P (pickN x5_3 x10_7 (Value.bool false)) (fun x11_8 =>
 ret x11_8) pn) pn) pn) pn
def mo83 : Nat → Mo := fun _ => .done
def lv83 : Nat → List Nat := fun _ => []
theorem ok83 : okC Tryd.f83.ntmps mo83 (Tryd.f83.body.getD .skip) = true := by kernel_rfl
theorem eq83 (a0 a1 : Value) (ret : Value → C) (pn : Pn) : D P mo83 lv83 pn (Tryd.f83.body.getD .skip) (finQ P Tryd.f83.results ret) (env0 [a0, a1]) = S83 a0 a1 ret pn := by kernel_rfl
theorem c83 {a0 a1 : Value} {R : Ending → World → Prop} {w : World} (h : S83 a0 a1 (fun v w => R (.returned v) w) (fun c w => R (.panicked c) w) w) : Calls P 83 #[a0, a1] w R :=
  callsD mixed mo83 lv83 Tryd.func83 rfl (Nat.le_of_ble_eq_true rfl) ok83 ((congrFun (eq83 a0 a1 _ _) w).mpr h)
theorem en83 (args : Array Value) (w : World) : (callFunc 83 args).run P w = .ok (.enter 83 args) w := by kernel_rfl

/-! ### evenhand / fold.do -/
def S84 (a0 a1 a2 : Value) (ret : Value → C) (pn : Pn) : C :=
 nextS P (binN .sub 3 (Operand.tmp 8) (Operand.const (Value.int IntKind.i64 4)) a0 (Value.int IntKind.i64 4)) (fun x9_1 =>
 nextS P (binN .add 3 (Operand.tmp 9) (Operand.const (Value.int IntKind.i64 6)) x9_1 (Value.int IntKind.i64 6)) (fun x10_2 =>
 callS P 90 #[x10_2, a1, a2] (fun x13_3 =>
 nextS P (V (Instr.extract x13_3 0)) (fun x14_4 =>
 nextS P (V (Instr.extract x13_3 1)) (fun x15_5 =>
 ret (.tuple #[x14_4, x15_5])) pn) pn) pn) pn) pn
def mo84 : Nat → Mo := fun _ => .done
def lv84 : Nat → List Nat := fun _ => []
theorem ok84 : okC Tryd.f84.ntmps mo84 (Tryd.f84.body.getD .skip) = true := by kernel_rfl
theorem eq84 (a0 a1 a2 : Value) (ret : Value → C) (pn : Pn) : D P mo84 lv84 pn (Tryd.f84.body.getD .skip) (finQ P Tryd.f84.results ret) (env0 [a0, a1, a2]) = S84 a0 a1 a2 ret pn := by kernel_rfl
theorem c84 {a0 a1 a2 : Value} {R : Ending → World → Prop} {w : World} (h : S84 a0 a1 a2 (fun v w => R (.returned v) w) (fun c w => R (.panicked c) w) w) : Calls P 84 #[a0, a1, a2] w R :=
  callsD mixed mo84 lv84 Tryd.func84 rfl (Nat.le_of_ble_eq_true rfl) ok84 ((congrFun (eq84 a0 a1 a2 _ _) w).mpr h)
theorem en84 (args : Array Value) (w : World) : (callFunc 84 args).run P w = .ok (.enter 84 args) w := by kernel_rfl

/-! ### evenhand / fold.push -/
def S85 (a0 : Value) (ret : Value → C) (pn : Pn) : C :=
 nextS P (V (Instr.alloc 51 true (.tuple #[]))) (fun x2_1 =>
 nextS P (V (Instr.build 51 #[(0, (Value.int IntKind.i64 1)), (2, a0)])) (fun x4_2 =>
 nextS P (U (Instr.storeAt 51 x2_1 x4_2)) (fun _ =>
 cellS P 51 x2_1 ret) pn) pn) pn
def mo85 : Nat → Mo := fun _ => .done
def lv85 : Nat → List Nat := fun _ => []
theorem ok85 : okC Tryd.f85.ntmps mo85 (Tryd.f85.body.getD .skip) = true := by kernel_rfl
theorem eq85 (a0 : Value) (ret : Value → C) (pn : Pn) : D P mo85 lv85 pn (Tryd.f85.body.getD .skip) (finQ P Tryd.f85.results ret) (env0 [a0]) = S85 a0 ret pn := by kernel_rfl
theorem c85 {a0 : Value} {R : Ending → World → Prop} {w : World} (h : S85 a0 (fun v w => R (.returned v) w) (fun c w => R (.panicked c) w) w) : Calls P 85 #[a0] w R :=
  callsD mixed mo85 lv85 Tryd.func85 rfl (Nat.le_of_ble_eq_true rfl) ok85 ((congrFun (eq85 a0 _ _) w).mpr h)
theorem en85 (args : Array Value) (w : World) : (callFunc 85 args).run P w = .ok (.enter 85 args) w := by kernel_rfl

/-! ### evenhand / wrap.Do -/
def S90 (a0 a1 a2 : Value) (ret : Value → C) (pn : Pn) : C :=
 nextS P (binN .eql 3 (Operand.tmp 8) (Operand.const (Value.int IntKind.i64 6)) a0 (Value.int IntKind.i64 6)) (fun x10_1 =>
 condS x10_1
 (callS P 92 #[a1] (fun x12_2 =>
 ret (.tuple #[x12_2, (Value.bool true)])) pn)
 (nextS P (binN .eql 3 (Operand.tmp 8) (Operand.const (Value.int IntKind.i64 7)) a0 (Value.int IntKind.i64 7)) (fun x14_3 =>
 condS x14_3
 (callS P 93 #[a1] (fun x16_4 =>
 ret (.tuple #[x16_4, (Value.bool true)])) pn)
 (nextS P (binN .eql 3 (Operand.tmp 8) (Operand.const (Value.int IntKind.i64 8)) a0 (Value.int IntKind.i64 8)) (fun x18_5 =>
 condS x18_5
 (callS P 94 #[a1, a2] (fun x21_6 =>
 ret (.tuple #[x21_6, (Value.bool true)])) pn)
 (nextS P (binN .eql 3 (Operand.tmp 8) (Operand.const (Value.int IntKind.i64 9)) a0 (Value.int IntKind.i64 9)) (fun x23_7 =>
 condS x23_7
 (callS P 95 #[a1, a2] (fun x26_8 =>
 ret (.tuple #[x26_8, (Value.bool true)])) pn)
 (nextS P (binN .eql 3 (Operand.tmp 8) (Operand.const (Value.int IntKind.i64 10)) a0 (Value.int IntKind.i64 10)) (fun x28_9 =>
 condS x28_9
 (callS P 96 #[a1, a2] (fun x31_10 =>
 ret (.tuple #[x31_10, (Value.bool true)])) pn)
 (nextS P (binN .eql 3 (Operand.tmp 8) (Operand.const (Value.int IntKind.i64 11)) a0 (Value.int IntKind.i64 11)) (fun x33_11 =>
 condS x33_11
 (callS P 97 #[a1, a2] (fun x36_12 =>
 nextS P (V (Instr.extract x36_12 0)) (fun x37_13 =>
 nextS P (V (Instr.extract x36_12 1)) (fun x38_14 =>
 ret (.tuple #[x37_13, x38_14])) pn) pn) pn)
 (nextS P (binN .eql 3 (Operand.tmp 8) (Operand.const (Value.int IntKind.i64 12)) a0 (Value.int IntKind.i64 12)) (fun x40_15 =>
 condS x40_15
 (callS P 98 #[a1, a2] (fun x43_16 =>
 nextS P (V (Instr.extract x43_16 0)) (fun x44_17 =>
 nextS P (V (Instr.extract x43_16 1)) (fun x45_18 =>
 ret (.tuple #[x44_17, x45_18])) pn) pn) pn)
 (nextS P (binN .eql 3 (Operand.tmp 8) (Operand.const (Value.int IntKind.i64 13)) a0 (Value.int IntKind.i64 13)) (fun x47_19 =>
 condS x47_19
 (callS P 99 #[a1, a2] (fun x50_20 =>
 ret (.tuple #[x50_20, (Value.bool true)])) pn)
 (nextS P (binN .eql 3 (Operand.tmp 8) (Operand.const (Value.int IntKind.i64 14)) a0 (Value.int IntKind.i64 14)) (fun x52_21 =>
 condS x52_21
 (callS P 100 #[a1, a2] (fun x55_22 =>
 ret (.tuple #[x55_22, (Value.bool true)])) pn)
 (nextS P (binN .eql 3 (Operand.tmp 8) (Operand.const (Value.int IntKind.i64 15)) a0 (Value.int IntKind.i64 15)) (fun x57_23 =>
 condS x57_23
 (callS P 101 #[a1, a2] (fun x60_24 =>
 ret (.tuple #[x60_24, (Value.bool true)])) pn)
 (nextS P (binN .eql 3 (Operand.tmp 8) (Operand.const (Value.int IntKind.i64 16)) a0 (Value.int IntKind.i64 16)) (fun x62_25 =>
 condS x62_25
 (callS P 102 #[a1, a2] (fun x65_26 =>
 ret (.tuple #[x65_26, (Value.bool true)])) pn)
 (ret (.tuple #[(Value.int IntKind.i64 0), (Value.bool false)]))) pn)) pn)) pn)) pn)) pn)) pn)) pn)) pn)) pn)) pn)) pn
def mo90 : Nat → Mo := fun _ => .done
def lv90 : Nat → List Nat := fun _ => []
theorem ok90 : okC Tryd.f90.ntmps mo90 (Tryd.f90.body.getD .skip) = true := by kernel_rfl
theorem eq90 (a0 a1 a2 : Value) (ret : Value → C) (pn : Pn) : D P mo90 lv90 pn (Tryd.f90.body.getD .skip) (finQ P Tryd.f90.results ret) (env0 [a0, a1, a2]) = S90 a0 a1 a2 ret pn := by kernel_rfl
theorem c90 {a0 a1 a2 : Value} {R : Ending → World → Prop} {w : World} (h : S90 a0 a1 a2 (fun v w => R (.returned v) w) (fun c w => R (.panicked c) w) w) : Calls P 90 #[a0, a1, a2] w R :=
  callsD mixed mo90 lv90 Tryd.func90 rfl (Nat.le_of_ble_eq_true rfl) ok90 ((congrFun (eq90 a0 a1 a2 _ _) w).mpr h)
theorem en90 (args : Array Value) (w : World) : (callFunc 90 args).run P w = .ok (.enter 90 args) w := by kernel_rfl

/-! ### evenhand / wrap.Neg -/
def S92 (a0 : Value) (ret : Value → C) (pn : Pn) : C :=
 nextS P (V (Op.unary .neg a0)) (fun x4_1 =>
 ret x4_1) pn
def mo92 : Nat → Mo := fun _ => .done
def lv92 : Nat → List Nat := fun _ => []
theorem ok92 : okC Tryd.f92.ntmps mo92 (Tryd.f92.body.getD .skip) = true := by kernel_rfl
theorem eq92 (a0 : Value) (ret : Value → C) (pn : Pn) : D P mo92 lv92 pn (Tryd.f92.body.getD .skip) (finQ P Tryd.f92.results ret) (env0 [a0]) = S92 a0 ret pn := by kernel_rfl
theorem c92 {a0 : Value} {R : Ending → World → Prop} {w : World} (h : S92 a0 (fun v w => R (.returned v) w) (fun c w => R (.panicked c) w) w) : Calls P 92 #[a0] w R :=
  callsD mixed mo92 lv92 Tryd.func92 rfl (Nat.le_of_ble_eq_true rfl) ok92 ((congrFun (eq92 a0 _ _) w).mpr h)
theorem en92 (args : Array Value) (w : World) : (callFunc 92 args).run P w = .ok (.enter 92 args) w := by kernel_rfl

/-! ### evenhand / wrap.Not -/
def S93 (a0 : Value) (ret : Value → C) (pn : Pn) : C :=
 nextS P (binN .eql 2 (Operand.tmp 3) (Operand.const (Value.int IntKind.i64 0)) a0 (Value.int IntKind.i64 0)) (fun x4_1 =>
 callS P 104 #[x4_1] (fun x5_2 =>
 ret x5_2) pn) pn
def mo93 : Nat → Mo := fun _ => .done
def lv93 : Nat → List Nat := fun _ => []
theorem ok93 : okC Tryd.f93.ntmps mo93 (Tryd.f93.body.getD .skip) = true := by kernel_rfl
theorem eq93 (a0 : Value) (ret : Value → C) (pn : Pn) : D P mo93 lv93 pn (Tryd.f93.body.getD .skip) (finQ P Tryd.f93.results ret) (env0 [a0]) = S93 a0 ret pn := by kernel_rfl
theorem c93 {a0 : Value} {R : Ending → World → Prop} {w : World} (h : S93 a0 (fun v w => R (.returned v) w) (fun c w => R (.panicked c) w) w) : Calls P 93 #[a0] w R :=
  callsD mixed mo93 lv93 Tryd.func93 rfl (Nat.le_of_ble_eq_true rfl) ok93 ((congrFun (eq93 a0 _ _) w).mpr h)
theorem en93 (args : Array Value) (w : World) : (callFunc 93 args).run P w = .ok (.enter 93 args) w := by kernel_rfl

/-! ### evenhand / wrap.Add -/
def S94 (a0 a1 : Value) (ret : Value → C) (pn : Pn) : C :=
 nextS P (binN .add 2 (Operand.tmp 5) (Operand.tmp 6) a0 a1) (fun x7_1 =>
 ret x7_1) pn
def mo94 : Nat → Mo := fun _ => .done
def lv94 : Nat → List Nat := fun _ => []
theorem ok94 : okC Tryd.f94.ntmps mo94 (Tryd.f94.body.getD .skip) = true := by kernel_rfl
theorem eq94 (a0 a1 : Value) (ret : Value → C) (pn : Pn) : D P mo94 lv94 pn (Tryd.f94.body.getD .skip) (finQ P Tryd.f94.results ret) (env0 [a0, a1]) = S94 a0 a1 ret pn := by kernel_rfl
theorem c94 {a0 a1 : Value} {R : Ending → World → Prop} {w : World} (h : S94 a0 a1 (fun v w => R (.returned v) w) (fun c w => R (.panicked c) w) w) : Calls P 94 #[a0, a1] w R :=
  callsD mixed mo94 lv94 Tryd.func94 rfl (Nat.le_of_ble_eq_true rfl) ok94 ((congrFun (eq94 a0 a1 _ _) w).mpr h)
theorem en94 (args : Array Value) (w : World) : (callFunc 94 args).run P w = .ok (.enter 94 args) w := by kernel_rfl

/-! ### evenhand / wrap.Sub -/
def S95 (a0 a1 : Value) (ret : Value → C) (pn : Pn) : C :=
 nextS P (binN .sub 2 (Operand.tmp 5) (Operand.tmp 6) a0 a1) (fun x7_1 =>
 ret x7_1) pn
def mo95 : Nat → Mo := fun _ => .done
def lv95 : Nat → List Nat := fun _ => []
theorem ok95 : okC Tryd.f95.ntmps mo95 (Tryd.f95.body.getD .skip) = true := by kernel_rfl
theorem eq95 (a0 a1 : Value) (ret : Value → C) (pn : Pn) : D P mo95 lv95 pn (Tryd.f95.body.getD .skip) (finQ P Tryd.f95.results ret) (env0 [a0, a1]) = S95 a0 a1 ret pn := by kernel_rfl
theorem c95 {a0 a1 : Value} {R : Ending → World → Prop} {w : World} (h : S95 a0 a1 (fun v w => R (.returned v) w) (fun c w => R (.panicked c) w) w) : Calls P 95 #[a0, a1] w R :=
  callsD mixed mo95 lv95 Tryd.func95 rfl (Nat.le_of_ble_eq_true rfl) ok95 ((congrFun (eq95 a0 a1 _ _) w).mpr h)
theorem en95 (args : Array Value) (w : World) : (callFunc 95 args).run P w = .ok (.enter 95 args) w := by kernel_rfl

/-! ### evenhand / wrap.Mul -/
def S96 (a0 a1 : Value) (ret : Value → C) (pn : Pn) : C :=
 nextS P (binN .mul 2 (Operand.tmp 5) (Operand.tmp 6) a0 a1) (fun x7_1 =>
 ret x7_1) pn
def mo96 : Nat → Mo := fun _ => .done
def lv96 : Nat → List Nat := fun _ => []
theorem ok96 : okC Tryd.f96.ntmps mo96 (Tryd.f96.body.getD .skip) = true := by kernel_rfl
theorem eq96 (a0 a1 : Value) (ret : Value → C) (pn : Pn) : D P mo96 lv96 pn (Tryd.f96.body.getD .skip) (finQ P Tryd.f96.results ret) (env0 [a0, a1]) = S96 a0 a1 ret pn := by kernel_rfl
theorem c96 {a0 a1 : Value} {R : Ending → World → Prop} {w : World} (h : S96 a0 a1 (fun v w => R (.returned v) w) (fun c w => R (.panicked c) w) w) : Calls P 96 #[a0, a1] w R :=
  callsD mixed mo96 lv96 Tryd.func96 rfl (Nat.le_of_ble_eq_true rfl) ok96 ((congrFun (eq96 a0 a1 _ _) w).mpr h)
theorem en96 (args : Array Value) (w : World) : (callFunc 96 args).run P w = .ok (.enter 96 args) w := by kernel_rfl

end Go.Proofs.YtkonigmefmgepaaDoor
