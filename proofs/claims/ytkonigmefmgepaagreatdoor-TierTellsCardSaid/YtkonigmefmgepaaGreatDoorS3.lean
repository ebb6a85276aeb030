/- The shallow forms of the loaded functions, written by wip/gen.py out of the print of the loaded program: no idea stands in it. -/
import Derived.Test.YtkonigmefmgepaaGreatDoorS0
import Derived.Test.YtkonigmefmgepaaGreatDoorProg
namespace Go.Proofs.YtkonigmefmgepaaGreatDoor
set_option maxRecDepth 100000
set_option linter.unusedVariables false
/-! ### slices.Replace[[]evenhand / code.Ins,evenhand / code.Ins] -/
def S97_k1 (ret : Value → C) (pn : Pn) (y9 : Value) : C :=
 ret y9
def S97 (a0 a1 a2 a3 : Value) (ret : Value → C) (pn : Pn) : C :=
 nextS P (V (Instr.sliceAt 36 a0 (some a1) (some a2) none)) (fun x18_1 =>
 nextS P (binN .eql 3 (Operand.tmp 19) (Operand.tmp 20) a1 a2) (fun x21_2 =>
 condS x21_2
 (callS P 102 #[a0, a1, a3] (fun x25_3 =>
 ret x25_3) pn)
 (nextS P (bltN .len #[36] 3 #[false] #[a0]) (fun x28_4 =>
 nextS P (binN .eql 3 (Operand.tmp 26) (Operand.tmp 28) a2 x28_4) (fun x29_5 =>
 condS x29_5
 (nextS P (V (Instr.sliceAt 36 a0 none (some a1) none)) (fun x32_6 =>
 nextS P (bltN .append #[36, 36] 36 #[false, false] #[x32_6, a3]) (fun x34_7 =>
 nextS P (bltN .len #[36] 3 #[false] #[x34_7]) (fun x36_8 =>
 nextS P (bltN .len #[36] 3 #[false] #[a0]) (fun x38_9 =>
 nextS P (binN .lss 3 (Operand.tmp 36) (Operand.tmp 38) x36_8 x38_9) (fun x39_10 =>
 condS x39_10
 (nextS P (bltN .len #[36] 3 #[false] #[x34_7]) (fun x42_11 =>
 nextS P (V (Instr.sliceAt 36 a0 (some x42_11) none none)) (fun x43_12 =>
 nextS P (bltN .clear #[36] 0 #[false] #[x43_12]) (fun _ =>
 S97_k1 ret pn x34_7) pn) pn) pn)
 (S97_k1 ret pn x34_7)) pn) pn) pn) pn) pn)
 (DrawS fun S =>
 pureS P (V (Instr.sliceAt 36 a0 none (some a1) none)) fun x47_14 =>
 takeS S P (bltN .len #[36] 3 #[false] #[x47_14]) fun x48_15 =>
 takeS S P (bltN .len #[36] 3 #[false] #[a3]) fun x50_16 =>
 pureS P (binN .add 3 (Operand.tmp 48) (Operand.tmp 50) x48_15 x50_16) fun x51_17 =>
 pureS P (V (Instr.sliceAt 36 a0 (some a2) none none)) fun x54_18 =>
 takeS S P (bltN .len #[36] 3 #[false] #[x54_18]) fun x55_19 =>
 pureS P (binN .add 3 (Operand.tmp 51) (Operand.tmp 55) x51_17 x55_19) fun x56_20 =>
 nextS P (bltN .cap #[36] 3 #[false] #[a0]) (fun x59_21 =>
 nextS P (binN .gtr 3 (Operand.tmp 57) (Operand.tmp 59) x56_20 x59_21) (fun x60_22 =>
 condS x60_22
 (nextS P (V (Instr.sliceAt 36 a0 none (some a1) none)) (fun x63_23 =>
 nextS P (binN .sub 3 (Operand.tmp 64) (Operand.tmp 65) x56_20 a1) (fun x66_24 =>
 nextS P (bltN .append #[36, 3] 36 #[false, false] #[x63_23, x66_24]) (fun x67_25 =>
 nextS P (V (Instr.sliceAt 36 x67_25 (some a1) none none)) (fun x70_26 =>
 nextS P (bltN .copy #[36, 36] 3 #[false, false] #[x70_26, a3]) (fun x72_27 =>
 DrawS fun S =>
 takeS S P (bltN .len #[36] 3 #[false] #[a3]) fun x76_28 =>
 pureS P (binN .add 3 (Operand.tmp 74) (Operand.tmp 76) a1 x76_28) fun x77_29 =>
 pureS P (V (Instr.sliceAt 36 x67_25 (some x77_29) none none)) fun x78_30 =>
 pureS P (V (Instr.sliceAt 36 a0 (some a2) none none)) fun x81_31 =>
 nextS P (bltN .copy #[36, 36] 3 #[false, false] #[x78_30, x81_31]) (fun x82_32 w => S w ∧ (ret x67_25) w) pn) pn) pn) pn) pn) pn)
 (nextS P (V (Instr.sliceAt 36 a0 none (some x56_20) none)) (fun x86_33 =>
 nextS P (bltN .len #[36] 3 #[false] #[a3]) (fun x89_34 =>
 nextS P (binN .add 3 (Operand.tmp 87) (Operand.tmp 89) a1 x89_34) (fun x90_35 =>
 nextS P (binN .leq 3 (Operand.tmp 90) (Operand.tmp 91) x90_35 a2) (fun x92_36 =>
 condS x92_36
 (nextS P (V (Instr.sliceAt 36 x86_33 (some a1) none none)) (fun x95_37 =>
 nextS P (bltN .copy #[36, 36] 3 #[false, false] #[x95_37, a3]) (fun x97_38 =>
 DrawS fun S =>
 takeS S P (bltN .len #[36] 3 #[false] #[a3]) fun x101_39 =>
 pureS P (binN .add 3 (Operand.tmp 99) (Operand.tmp 101) a1 x101_39) fun x102_40 =>
 pureS P (V (Instr.sliceAt 36 x86_33 (some x102_40) none none)) fun x103_41 =>
 pureS P (V (Instr.sliceAt 36 a0 (some a2) none none)) fun x106_42 =>
 nextS P (bltN .copy #[36, 36] 3 #[false, false] #[x103_41, x106_42]) (fun x107_43 w => S w ∧ (nextS P (V (Instr.sliceAt 36 a0 (some x56_20) none none)) (fun x110_44 =>
 nextS P (bltN .clear #[36] 0 #[false] #[x110_44]) (fun _ =>
 ret x86_33) pn) pn) w) pn) pn) pn)
 (nextS P (bltN .len #[36] 3 #[false] #[a3]) (fun x115_46 =>
 nextS P (binN .add 3 (Operand.tmp 113) (Operand.tmp 115) a1 x115_46) (fun x116_47 =>
 nextS P (V (Instr.sliceAt 36 x86_33 (some x116_47) none none)) (fun x117_48 =>
 callS P 103 #[x117_48, a3] (fun x119_49 =>
 nextS P (V (Op.unary .not x119_49)) (fun x120_50 =>
 condS x120_50
 (DrawS fun S =>
 takeS S P (bltN .len #[36] 3 #[false] #[a3]) fun x124_51 =>
 pureS P (binN .add 3 (Operand.tmp 122) (Operand.tmp 124) a1 x124_51) fun x125_52 =>
 pureS P (V (Instr.sliceAt 36 x86_33 (some x125_52) none none)) fun x126_53 =>
 pureS P (V (Instr.sliceAt 36 a0 (some a2) none none)) fun x129_54 =>
 nextS P (bltN .copy #[36, 36] 3 #[false, false] #[x126_53, x129_54]) (fun x130_55 w => S w ∧ (nextS P (V (Instr.sliceAt 36 x86_33 (some a1) none none)) (fun x133_56 =>
 nextS P (bltN .copy #[36, 36] 3 #[false, false] #[x133_56, a3]) (fun x135_57 =>
 ret x86_33) pn) pn) w) pn)
 (nextS P (bltN .len #[36] 3 #[false] #[a3]) (fun x138_58 =>
 nextS P (binN .sub 3 (Operand.tmp 139) (Operand.tmp 140) a2 a1) (fun x141_59 =>
 nextS P (binN .sub 3 (Operand.tmp 138) (Operand.tmp 141) x138_58 x141_59) (fun x142_60 =>
 nextS P (V (Instr.sliceAt 36 x86_33 (some a1) (some a2) none)) (fun x146_61 =>
 callS P 103 #[x146_61, a3] (fun x148_62 =>
 nextS P (V (Op.unary .not x148_62)) (fun x149_63 =>
 condS x149_63
 (DrawS fun S =>
 pureS P (V (Instr.sliceAt 36 x86_33 (some a1) (some a2) none)) fun x153_64 =>
 pureS P (V (Instr.sliceAt 36 a3 (some x142_60) none none)) fun x156_65 =>
 nextS P (bltN .copy #[36, 36] 3 #[false, false] #[x153_64, x156_65]) (fun x157_66 w => S w ∧ (DrawS fun S =>
 takeS S P (bltN .len #[36] 3 #[false] #[a0]) fun x160_67 =>
 pureS P (V (Instr.sliceAt 36 x86_33 (some x160_67) none none)) fun x161_68 =>
 pureS P (V (Instr.sliceAt 36 a3 none (some x142_60) none)) fun x164_69 =>
 nextS P (bltN .copy #[36, 36] 3 #[false, false] #[x161_68, x164_69]) (fun x165_70 w => S w ∧ (nextS P (V (Instr.sliceAt 36 x86_33 (some a1) none none)) (fun x168_71 =>
 callS P 104 #[x168_71, x142_60] (fun x170_72 =>
 ret x86_33) pn) pn) w) pn) w) pn)
 (nextS P (bltN .len #[36] 3 #[false] #[a0]) (fun x174_73 =>
 nextS P (V (Instr.sliceAt 36 x86_33 (some x174_73) none none)) (fun x175_74 =>
 callS P 103 #[x175_74, a3] (fun x177_75 =>
 nextS P (V (Op.unary .not x177_75)) (fun x178_76 =>
 condS x178_76
 (DrawS fun S =>
 takeS S P (bltN .len #[36] 3 #[false] #[a0]) fun x181_77 =>
 pureS P (V (Instr.sliceAt 36 x86_33 (some x181_77) none none)) fun x182_78 =>
 pureS P (V (Instr.sliceAt 36 a3 none (some x142_60) none)) fun x185_79 =>
 nextS P (bltN .copy #[36, 36] 3 #[false, false] #[x182_78, x185_79]) (fun x186_80 w => S w ∧ (DrawS fun S =>
 pureS P (V (Instr.sliceAt 36 x86_33 (some a1) (some a2) none)) fun x190_81 =>
 pureS P (V (Instr.sliceAt 36 a3 (some x142_60) none none)) fun x193_82 =>
 nextS P (bltN .copy #[36, 36] 3 #[false, false] #[x190_81, x193_82]) (fun x194_83 w => S w ∧ (nextS P (V (Instr.sliceAt 36 x86_33 (some a1) none none)) (fun x197_84 =>
 callS P 104 #[x197_84, x142_60] (fun x199_85 =>
 ret x86_33) pn) pn) w) pn) w) pn)
 (nextS P (V (Instr.sliceAt 36 a0 (some a2) none none)) (fun x204_86 =>
 callS P 105 #[a3, x204_86] (fun x205_87 =>
 nextS P (V (Instr.sliceAt 36 x86_33 (some a1) none none)) (fun x208_88 =>
 nextS P (bltN .copy #[36, 36] 3 #[false, false] #[x208_88, a3]) (fun x210_89 =>
 DrawS fun S =>
 takeS S P (bltN .len #[36] 3 #[false] #[a3]) fun x214_90 =>
 pureS P (binN .add 3 (Operand.tmp 212) (Operand.tmp 214) a1 x214_90) fun x215_91 =>
 pureS P (V (Instr.sliceAt 36 x86_33 (some x215_91) none none)) fun x216_92 =>
 pureS P (binN .add 3 (Operand.tmp 218) (Operand.tmp 219) a1 x205_87) fun x220_93 =>
 pureS P (V (Instr.sliceAt 36 x86_33 (some x220_93) none none)) fun x221_94 =>
 nextS P (bltN .copy #[36, 36] 3 #[false, false] #[x216_92, x221_94]) (fun x222_95 w => S w ∧ (ret x86_33) w) pn) pn) pn) pn) pn)) pn) pn) pn) pn)) pn) pn) pn) pn) pn) pn)) pn) pn) pn) pn) pn)) pn) pn) pn) pn)) pn) pn)) pn) pn)) pn) pn
def mo97 : Nat → Mo
  | 9 => (Mo.take 0 (Mo.take 1 (Mo.take 2 (Mo.take 3 (Mo.take 4 (Mo.take 5 (Mo.take 6 (Mo.take 7 (Mo.take 8 (Mo.take 9 (Mo.take 10 (Mo.take 11 (Mo.take 12 Mo.done)))))))))))))
  | 13 => (Mo.take 0 (Mo.take 1 (Mo.take 2 (Mo.take 3 (Mo.take 4 (Mo.take 5 (Mo.take 6 (Mo.take 7 (Mo.take 8 (Mo.eff 9 Mo.done))))))))))
  | 18 => (Mo.take 0 (Mo.take 1 (Mo.take 2 (Mo.take 3 (Mo.take 4 (Mo.take 5 (Mo.take 6 (Mo.take 7 (Mo.take 8 (Mo.eff 9 Mo.done))))))))))
  | 22 => (Mo.take 0 (Mo.take 1 (Mo.take 2 (Mo.take 3 (Mo.take 4 (Mo.take 5 (Mo.take 6 (Mo.take 7 (Mo.take 8 (Mo.eff 9 Mo.done))))))))))
  | 27 => (Mo.take 0 (Mo.take 1 (Mo.take 2 (Mo.take 3 (Mo.take 4 (Mo.take 5 (Mo.take 6 (Mo.eff 7 Mo.done))))))))
  | 28 => (Mo.take 0 (Mo.take 1 (Mo.take 2 (Mo.take 3 (Mo.take 4 (Mo.take 5 (Mo.take 6 (Mo.eff 7 Mo.done))))))))
  | 32 => (Mo.take 0 (Mo.take 1 (Mo.take 2 (Mo.take 3 (Mo.take 4 (Mo.take 5 (Mo.take 6 (Mo.eff 7 Mo.done))))))))
  | 33 => (Mo.take 0 (Mo.take 1 (Mo.take 2 (Mo.take 3 (Mo.take 4 (Mo.take 5 (Mo.take 6 (Mo.eff 7 Mo.done))))))))
  | 38 => (Mo.take 0 (Mo.take 1 (Mo.take 2 (Mo.take 3 (Mo.take 4 (Mo.take 5 (Mo.take 6 (Mo.take 7 (Mo.take 8 (Mo.take 9 (Mo.take 10 (Mo.eff 11 Mo.done))))))))))))
  | _ => .done
def lv97 : Nat → List Nat := fun _ => []
theorem ok97 : okC Tryz.f97.ntmps mo97 (Tryz.f97.body.getD .skip) = true := by kernel_rfl
theorem eq97 (a0 a1 a2 a3 : Value) (ret : Value → C) (pn : Pn) : D P mo97 lv97 pn (Tryz.f97.body.getD .skip) (finQ P Tryz.f97.results ret) (env0 [a0, a1, a2, a3]) = S97 a0 a1 a2 a3 ret pn := by kernel_rfl
theorem c97 {a0 a1 a2 a3 : Value} {R : Ending → World → Prop} {w : World} (h : S97 a0 a1 a2 a3 (fun v w => R (.returned v) w) (fun c w => R (.panicked c) w) w) : Calls P 97 #[a0, a1, a2, a3] w R :=
  callsD mixed mo97 lv97 Tryz.func97 rfl (Nat.le_of_ble_eq_true rfl) ok97 ((congrFun (eq97 a0 a1 a2 a3 _ _) w).mpr h)
theorem en97 (args : Array Value) (w : World) : (callFunc 97 args).run P w = .ok (.enter 97 args) w := by kernel_rfl

/-! ### evenhand / fold.jumps -/
def S98 (a0 : Value) (ret : Value → C) (pn : Pn) : C :=
 nextS P (V (Instr.box 69 a0)) (fun x1_1 =>
 nextS P (V (Instr.fieldAt 69 x1_1 0)) (fun x3_2 =>
 nextS P (V (Instr.loadAt 3 x3_2)) (fun x4_3 =>
 nextS P (binN .eql 3 (Operand.tmp 4) (Operand.const (Value.int IntKind.i64 15)) x4_3 (Value.int IntKind.i64 15)) (fun x5_4 =>
 grdS x5_4 false (fun K => nextS P (V (Instr.fieldAt 69 x1_1 0)) K pn) fun x7_5 =>
 grdS x5_4 false (fun K => nextS P (V (Instr.loadAt 3 x7_5)) K pn) fun x8_6 =>
 grdS x5_4 false (fun K => nextS P (binN .eql 3 (Operand.tmp 8) (Operand.const (Value.int IntKind.i64 16)) x8_6 (Value.int IntKind.i64 16)) K pn) fun x9_7 =>
 nextS P (pickN x5_4 (Value.bool true) x9_7) (fun x10_8 =>
 ret x10_8) pn) pn) pn) pn) pn
def mo98 : Nat → Mo := fun _ => .done
def lv98 : Nat → List Nat := fun _ => []
theorem ok98 : okC Tryz.f98.ntmps mo98 (Tryz.f98.body.getD .skip) = true := by kernel_rfl
theorem eq98 (a0 : Value) (ret : Value → C) (pn : Pn) : D P mo98 lv98 pn (Tryz.f98.body.getD .skip) (finQ P Tryz.f98.results ret) (env0 [a0]) = S98 a0 ret pn := by kernel_rfl
theorem c98 {a0 : Value} {R : Ending → World → Prop} {w : World} (h : S98 a0 (fun v w => R (.returned v) w) (fun c w => R (.panicked c) w) w) : Calls P 98 #[a0] w R :=
  callsD mixed mo98 lv98 Tryz.func98 rfl (Nat.le_of_ble_eq_true rfl) ok98 ((congrFun (eq98 a0 _ _) w).mpr h)
theorem en98 (args : Array Value) (w : World) : (callFunc 98 args).run P w = .ok (.enter 98 args) w := by kernel_rfl

/-! ### (*evenhand / fold.folder).free$1 -/
def S99 (a0 a1 : Value) (ret : Value → C) (pn : Pn) : C :=
 nextS P (V (Instr.box 69 a0)) (fun x2_1 =>
 nextS P (V (Instr.loadAt 69 x2_1)) (fun x4_2 =>
 callS P 98 #[x4_2] (fun x5_3 =>
 grdS x5_3 true (fun K => nextS P (V (Instr.fieldAt 69 x2_1 1)) K pn) fun x7_4 =>
 grdS x5_3 true (fun K => nextS P (V (Instr.loadAt 3 x7_4)) K pn) fun x8_5 =>
 grdS x5_3 true (fun K => nextS P (V (Instr.loadAt 3 a1)) K pn) fun x9_6 =>
 grdS x5_3 true (fun K => nextS P (binN .eql 3 (Operand.tmp 8) (Operand.tmp 9) x8_5 x9_6) K pn) fun x10_7 =>
 nextS P (pickN x5_3 x10_7 (Value.bool false)) (fun x11_8 =>
 ret x11_8) pn) pn) pn) pn
def mo99 : Nat → Mo := fun _ => .done
def lv99 : Nat → List Nat := fun _ => []
theorem ok99 : okC Tryz.f99.ntmps mo99 (Tryz.f99.body.getD .skip) = true := by kernel_rfl
theorem eq99 (a0 a1 : Value) (ret : Value → C) (pn : Pn) : D P mo99 lv99 pn (Tryz.f99.body.getD .skip) (finQ P Tryz.f99.results ret) (env0 [a0, a1]) = S99 a0 a1 ret pn := by kernel_rfl
theorem c99 {a0 a1 : Value} {R : Ending → World → Prop} {w : World} (h : S99 a0 a1 (fun v w => R (.returned v) w) (fun c w => R (.panicked c) w) w) : Calls P 99 #[a0, a1] w R :=
  callsD mixed mo99 lv99 Tryz.func99 rfl (Nat.le_of_ble_eq_true rfl) ok99 ((congrFun (eq99 a0 a1 _ _) w).mpr h)
theorem en99 (args : Array Value) (w : World) : (callFunc 99 args).run P w = .ok (.enter 99 args) w := by kernel_rfl

/-! ### evenhand / fold.do -/
def S100 (a0 a1 a2 : Value) (ret : Value → C) (pn : Pn) : C :=
 nextS P (binN .sub 3 (Operand.tmp 8) (Operand.const (Value.int IntKind.i64 4)) a0 (Value.int IntKind.i64 4)) (fun x9_1 =>
 nextS P (binN .add 3 (Operand.tmp 9) (Operand.const (Value.int IntKind.i64 6)) x9_1 (Value.int IntKind.i64 6)) (fun x10_2 =>
 callS P 106 #[x10_2, a1, a2] (fun x13_3 =>
 nextS P (V (Instr.extract x13_3 0)) (fun x14_4 =>
 nextS P (V (Instr.extract x13_3 1)) (fun x15_5 =>
 ret (.tuple #[x14_4, x15_5])) pn) pn) pn) pn) pn
def mo100 : Nat → Mo := fun _ => .done
def lv100 : Nat → List Nat := fun _ => []
theorem ok100 : okC Tryz.f100.ntmps mo100 (Tryz.f100.body.getD .skip) = true := by kernel_rfl
theorem eq100 (a0 a1 a2 : Value) (ret : Value → C) (pn : Pn) : D P mo100 lv100 pn (Tryz.f100.body.getD .skip) (finQ P Tryz.f100.results ret) (env0 [a0, a1, a2]) = S100 a0 a1 a2 ret pn := by kernel_rfl
theorem c100 {a0 a1 a2 : Value} {R : Ending → World → Prop} {w : World} (h : S100 a0 a1 a2 (fun v w => R (.returned v) w) (fun c w => R (.panicked c) w) w) : Calls P 100 #[a0, a1, a2] w R :=
  callsD mixed mo100 lv100 Tryz.func100 rfl (Nat.le_of_ble_eq_true rfl) ok100 ((congrFun (eq100 a0 a1 a2 _ _) w).mpr h)
theorem en100 (args : Array Value) (w : World) : (callFunc 100 args).run P w = .ok (.enter 100 args) w := by kernel_rfl

/-! ### evenhand / fold.push -/
def S101 (a0 : Value) (ret : Value → C) (pn : Pn) : C :=
 nextS P (V (Instr.alloc 69 true (.tuple #[]))) (fun x2_1 =>
 nextS P (V (Instr.build 69 #[(0, (Value.int IntKind.i64 1)), (2, a0)])) (fun x4_2 =>
 nextS P (U (Instr.storeAt 69 x2_1 x4_2)) (fun _ =>
 cellS P 69 x2_1 ret) pn) pn) pn
def mo101 : Nat → Mo := fun _ => .done
def lv101 : Nat → List Nat := fun _ => []
theorem ok101 : okC Tryz.f101.ntmps mo101 (Tryz.f101.body.getD .skip) = true := by kernel_rfl
theorem eq101 (a0 : Value) (ret : Value → C) (pn : Pn) : D P mo101 lv101 pn (Tryz.f101.body.getD .skip) (finQ P Tryz.f101.results ret) (env0 [a0]) = S101 a0 ret pn := by kernel_rfl
theorem c101 {a0 : Value} {R : Ending → World → Prop} {w : World} (h : S101 a0 (fun v w => R (.returned v) w) (fun c w => R (.panicked c) w) w) : Calls P 101 #[a0] w R :=
  callsD mixed mo101 lv101 Tryz.func101 rfl (Nat.le_of_ble_eq_true rfl) ok101 ((congrFun (eq101 a0 _ _) w).mpr h)
theorem en101 (args : Array Value) (w : World) : (callFunc 101 args).run P w = .ok (.enter 101 args) w := by kernel_rfl

/-! ### evenhand / wrap.Do -/
def S106 (a0 a1 a2 : Value) (ret : Value → C) (pn : Pn) : C :=
 nextS P (binN .eql 3 (Operand.tmp 8) (Operand.const (Value.int IntKind.i64 6)) a0 (Value.int IntKind.i64 6)) (fun x10_1 =>
 condS x10_1
 (callS P 108 #[a1] (fun x12_2 =>
 ret (.tuple #[x12_2, (Value.bool true)])) pn)
 (nextS P (binN .eql 3 (Operand.tmp 8) (Operand.const (Value.int IntKind.i64 7)) a0 (Value.int IntKind.i64 7)) (fun x14_3 =>
 condS x14_3
 (callS P 109 #[a1] (fun x16_4 =>
 ret (.tuple #[x16_4, (Value.bool true)])) pn)
 (nextS P (binN .eql 3 (Operand.tmp 8) (Operand.const (Value.int IntKind.i64 8)) a0 (Value.int IntKind.i64 8)) (fun x18_5 =>
 condS x18_5
 (callS P 110 #[a1, a2] (fun x21_6 =>
 ret (.tuple #[x21_6, (Value.bool true)])) pn)
 (nextS P (binN .eql 3 (Operand.tmp 8) (Operand.const (Value.int IntKind.i64 9)) a0 (Value.int IntKind.i64 9)) (fun x23_7 =>
 condS x23_7
 (callS P 111 #[a1, a2] (fun x26_8 =>
 ret (.tuple #[x26_8, (Value.bool true)])) pn)
 (nextS P (binN .eql 3 (Operand.tmp 8) (Operand.const (Value.int IntKind.i64 10)) a0 (Value.int IntKind.i64 10)) (fun x28_9 =>
 condS x28_9
 (callS P 112 #[a1, a2] (fun x31_10 =>
 ret (.tuple #[x31_10, (Value.bool true)])) pn)
 (nextS P (binN .eql 3 (Operand.tmp 8) (Operand.const (Value.int IntKind.i64 11)) a0 (Value.int IntKind.i64 11)) (fun x33_11 =>
 condS x33_11
 (callS P 113 #[a1, a2] (fun x36_12 =>
 nextS P (V (Instr.extract x36_12 0)) (fun x37_13 =>
 nextS P (V (Instr.extract x36_12 1)) (fun x38_14 =>
 ret (.tuple #[x37_13, x38_14])) pn) pn) pn)
 (nextS P (binN .eql 3 (Operand.tmp 8) (Operand.const (Value.int IntKind.i64 12)) a0 (Value.int IntKind.i64 12)) (fun x40_15 =>
 condS x40_15
 (callS P 114 #[a1, a2] (fun x43_16 =>
 nextS P (V (Instr.extract x43_16 0)) (fun x44_17 =>
 nextS P (V (Instr.extract x43_16 1)) (fun x45_18 =>
 ret (.tuple #[x44_17, x45_18])) pn) pn) pn)
 (nextS P (binN .eql 3 (Operand.tmp 8) (Operand.const (Value.int IntKind.i64 13)) a0 (Value.int IntKind.i64 13)) (fun x47_19 =>
 condS x47_19
 (callS P 115 #[a1, a2] (fun x50_20 =>
 ret (.tuple #[x50_20, (Value.bool true)])) pn)
 (nextS P (binN .eql 3 (Operand.tmp 8) (Operand.const (Value.int IntKind.i64 14)) a0 (Value.int IntKind.i64 14)) (fun x52_21 =>
 condS x52_21
 (callS P 116 #[a1, a2] (fun x55_22 =>
 ret (.tuple #[x55_22, (Value.bool true)])) pn)
 (nextS P (binN .eql 3 (Operand.tmp 8) (Operand.const (Value.int IntKind.i64 15)) a0 (Value.int IntKind.i64 15)) (fun x57_23 =>
 condS x57_23
 (callS P 117 #[a1, a2] (fun x60_24 =>
 ret (.tuple #[x60_24, (Value.bool true)])) pn)
 (nextS P (binN .eql 3 (Operand.tmp 8) (Operand.const (Value.int IntKind.i64 16)) a0 (Value.int IntKind.i64 16)) (fun x62_25 =>
 condS x62_25
 (callS P 118 #[a1, a2] (fun x65_26 =>
 ret (.tuple #[x65_26, (Value.bool true)])) pn)
 (ret (.tuple #[(Value.int IntKind.i64 0), (Value.bool false)]))) pn)) pn)) pn)) pn)) pn)) pn)) pn)) pn)) pn)) pn)) pn
def mo106 : Nat → Mo := fun _ => .done
def lv106 : Nat → List Nat := fun _ => []
theorem ok106 : okC Tryz.f106.ntmps mo106 (Tryz.f106.body.getD .skip) = true := by kernel_rfl
theorem eq106 (a0 a1 a2 : Value) (ret : Value → C) (pn : Pn) : D P mo106 lv106 pn (Tryz.f106.body.getD .skip) (finQ P Tryz.f106.results ret) (env0 [a0, a1, a2]) = S106 a0 a1 a2 ret pn := by kernel_rfl
theorem c106 {a0 a1 a2 : Value} {R : Ending → World → Prop} {w : World} (h : S106 a0 a1 a2 (fun v w => R (.returned v) w) (fun c w => R (.panicked c) w) w) : Calls P 106 #[a0, a1, a2] w R :=
  callsD mixed mo106 lv106 Tryz.func106 rfl (Nat.le_of_ble_eq_true rfl) ok106 ((congrFun (eq106 a0 a1 a2 _ _) w).mpr h)
theorem en106 (args : Array Value) (w : World) : (callFunc 106 args).run P w = .ok (.enter 106 args) w := by kernel_rfl

/-! ### evenhand / wrap.Neg -/
def S108 (a0 : Value) (ret : Value → C) (pn : Pn) : C :=
 nextS P (V (Op.unary .neg a0)) (fun x4_1 =>
 ret x4_1) pn
def mo108 : Nat → Mo := fun _ => .done
def lv108 : Nat → List Nat := fun _ => []
theorem ok108 : okC Tryz.f108.ntmps mo108 (Tryz.f108.body.getD .skip) = true := by kernel_rfl
theorem eq108 (a0 : Value) (ret : Value → C) (pn : Pn) : D P mo108 lv108 pn (Tryz.f108.body.getD .skip) (finQ P Tryz.f108.results ret) (env0 [a0]) = S108 a0 ret pn := by kernel_rfl
theorem c108 {a0 : Value} {R : Ending → World → Prop} {w : World} (h : S108 a0 (fun v w => R (.returned v) w) (fun c w => R (.panicked c) w) w) : Calls P 108 #[a0] w R :=
  callsD mixed mo108 lv108 Tryz.func108 rfl (Nat.le_of_ble_eq_true rfl) ok108 ((congrFun (eq108 a0 _ _) w).mpr h)
theorem en108 (args : Array Value) (w : World) : (callFunc 108 args).run P w = .ok (.enter 108 args) w := by kernel_rfl

/-! ### evenhand / wrap.Not -/
def S109 (a0 : Value) (ret : Value → C) (pn : Pn) : C :=
 nextS P (binN .eql 2 (Operand.tmp 3) (Operand.const (Value.int IntKind.i64 0)) a0 (Value.int IntKind.i64 0)) (fun x4_1 =>
 callS P 120 #[x4_1] (fun x5_2 =>
 ret x5_2) pn) pn
def mo109 : Nat → Mo := fun _ => .done
def lv109 : Nat → List Nat := fun _ => []
theorem ok109 : okC Tryz.f109.ntmps mo109 (Tryz.f109.body.getD .skip) = true := by kernel_rfl
theorem eq109 (a0 : Value) (ret : Value → C) (pn : Pn) : D P mo109 lv109 pn (Tryz.f109.body.getD .skip) (finQ P Tryz.f109.results ret) (env0 [a0]) = S109 a0 ret pn := by kernel_rfl
theorem c109 {a0 : Value} {R : Ending → World → Prop} {w : World} (h : S109 a0 (fun v w => R (.returned v) w) (fun c w => R (.panicked c) w) w) : Calls P 109 #[a0] w R :=
  callsD mixed mo109 lv109 Tryz.func109 rfl (Nat.le_of_ble_eq_true rfl) ok109 ((congrFun (eq109 a0 _ _) w).mpr h)
theorem en109 (args : Array Value) (w : World) : (callFunc 109 args).run P w = .ok (.enter 109 args) w := by kernel_rfl

/-! ### evenhand / wrap.Add -/
def S110 (a0 a1 : Value) (ret : Value → C) (pn : Pn) : C :=
 nextS P (binN .add 2 (Operand.tmp 5) (Operand.tmp 6) a0 a1) (fun x7_1 =>
 ret x7_1) pn
def mo110 : Nat → Mo := fun _ => .done
def lv110 : Nat → List Nat := fun _ => []
theorem ok110 : okC Tryz.f110.ntmps mo110 (Tryz.f110.body.getD .skip) = true := by kernel_rfl
theorem eq110 (a0 a1 : Value) (ret : Value → C) (pn : Pn) : D P mo110 lv110 pn (Tryz.f110.body.getD .skip) (finQ P Tryz.f110.results ret) (env0 [a0, a1]) = S110 a0 a1 ret pn := by kernel_rfl
theorem c110 {a0 a1 : Value} {R : Ending → World → Prop} {w : World} (h : S110 a0 a1 (fun v w => R (.returned v) w) (fun c w => R (.panicked c) w) w) : Calls P 110 #[a0, a1] w R :=
  callsD mixed mo110 lv110 Tryz.func110 rfl (Nat.le_of_ble_eq_true rfl) ok110 ((congrFun (eq110 a0 a1 _ _) w).mpr h)
theorem en110 (args : Array Value) (w : World) : (callFunc 110 args).run P w = .ok (.enter 110 args) w := by kernel_rfl

/-! ### evenhand / wrap.Sub -/
def S111 (a0 a1 : Value) (ret : Value → C) (pn : Pn) : C :=
 nextS P (binN .sub 2 (Operand.tmp 5) (Operand.tmp 6) a0 a1) (fun x7_1 =>
 ret x7_1) pn
def mo111 : Nat → Mo := fun _ => .done
def lv111 : Nat → List Nat := fun _ => []
theorem ok111 : okC Tryz.f111.ntmps mo111 (Tryz.f111.body.getD .skip) = true := by kernel_rfl
theorem eq111 (a0 a1 : Value) (ret : Value → C) (pn : Pn) : D P mo111 lv111 pn (Tryz.f111.body.getD .skip) (finQ P Tryz.f111.results ret) (env0 [a0, a1]) = S111 a0 a1 ret pn := by kernel_rfl
theorem c111 {a0 a1 : Value} {R : Ending → World → Prop} {w : World} (h : S111 a0 a1 (fun v w => R (.returned v) w) (fun c w => R (.panicked c) w) w) : Calls P 111 #[a0, a1] w R :=
  callsD mixed mo111 lv111 Tryz.func111 rfl (Nat.le_of_ble_eq_true rfl) ok111 ((congrFun (eq111 a0 a1 _ _) w).mpr h)
theorem en111 (args : Array Value) (w : World) : (callFunc 111 args).run P w = .ok (.enter 111 args) w := by kernel_rfl

/-! ### evenhand / wrap.Mul -/
def S112 (a0 a1 : Value) (ret : Value → C) (pn : Pn) : C :=
 nextS P (binN .mul 2 (Operand.tmp 5) (Operand.tmp 6) a0 a1) (fun x7_1 =>
 ret x7_1) pn
def mo112 : Nat → Mo := fun _ => .done
def lv112 : Nat → List Nat := fun _ => []
theorem ok112 : okC Tryz.f112.ntmps mo112 (Tryz.f112.body.getD .skip) = true := by kernel_rfl
theorem eq112 (a0 a1 : Value) (ret : Value → C) (pn : Pn) : D P mo112 lv112 pn (Tryz.f112.body.getD .skip) (finQ P Tryz.f112.results ret) (env0 [a0, a1]) = S112 a0 a1 ret pn := by kernel_rfl
theorem c112 {a0 a1 : Value} {R : Ending → World → Prop} {w : World} (h : S112 a0 a1 (fun v w => R (.returned v) w) (fun c w => R (.panicked c) w) w) : Calls P 112 #[a0, a1] w R :=
  callsD mixed mo112 lv112 Tryz.func112 rfl (Nat.le_of_ble_eq_true rfl) ok112 ((congrFun (eq112 a0 a1 _ _) w).mpr h)
theorem en112 (args : Array Value) (w : World) : (callFunc 112 args).run P w = .ok (.enter 112 args) w := by kernel_rfl

/-! ### evenhand / wrap.Div -/
def S113 (a0 a1 : Value) (ret : Value → C) (pn : Pn) : C :=
 nextS P (binN .eql 2 (Operand.tmp 6) (Operand.const (Value.int IntKind.i64 0)) a1 (Value.int IntKind.i64 0)) (fun x7_1 =>
 condS x7_1
 (ret (.tuple #[(Value.int IntKind.i64 0), (Value.bool false)]))
 (nextS P (binN .quo 2 (Operand.tmp 8) (Operand.tmp 9) a0 a1) (fun x10_2 =>
 ret (.tuple #[x10_2, (Value.bool true)])) pn)) pn
def mo113 : Nat → Mo := fun _ => .done
def lv113 : Nat → List Nat := fun _ => []
theorem ok113 : okC Tryz.f113.ntmps mo113 (Tryz.f113.body.getD .skip) = true := by kernel_rfl
theorem eq113 (a0 a1 : Value) (ret : Value → C) (pn : Pn) : D P mo113 lv113 pn (Tryz.f113.body.getD .skip) (finQ P Tryz.f113.results ret) (env0 [a0, a1]) = S113 a0 a1 ret pn := by kernel_rfl
theorem c113 {a0 a1 : Value} {R : Ending → World → Prop} {w : World} (h : S113 a0 a1 (fun v w => R (.returned v) w) (fun c w => R (.panicked c) w) w) : Calls P 113 #[a0, a1] w R :=
  callsD mixed mo113 lv113 Tryz.func113 rfl (Nat.le_of_ble_eq_true rfl) ok113 ((congrFun (eq113 a0 a1 _ _) w).mpr h)
theorem en113 (args : Array Value) (w : World) : (callFunc 113 args).run P w = .ok (.enter 113 args) w := by kernel_rfl

/-! ### evenhand / wrap.Mod -/
def S114 (a0 a1 : Value) (ret : Value → C) (pn : Pn) : C :=
 nextS P (binN .eql 2 (Operand.tmp 6) (Operand.const (Value.int IntKind.i64 0)) a1 (Value.int IntKind.i64 0)) (fun x7_1 =>
 condS x7_1
 (ret (.tuple #[(Value.int IntKind.i64 0), (Value.bool false)]))
 (nextS P (binN .rem 2 (Operand.tmp 8) (Operand.tmp 9) a0 a1) (fun x10_2 =>
 ret (.tuple #[x10_2, (Value.bool true)])) pn)) pn
def mo114 : Nat → Mo := fun _ => .done
def lv114 : Nat → List Nat := fun _ => []
theorem ok114 : okC Tryz.f114.ntmps mo114 (Tryz.f114.body.getD .skip) = true := by kernel_rfl
theorem eq114 (a0 a1 : Value) (ret : Value → C) (pn : Pn) : D P mo114 lv114 pn (Tryz.f114.body.getD .skip) (finQ P Tryz.f114.results ret) (env0 [a0, a1]) = S114 a0 a1 ret pn := by kernel_rfl
theorem c114 {a0 a1 : Value} {R : Ending → World → Prop} {w : World} (h : S114 a0 a1 (fun v w => R (.returned v) w) (fun c w => R (.panicked c) w) w) : Calls P 114 #[a0, a1] w R :=
  callsD mixed mo114 lv114 Tryz.func114 rfl (Nat.le_of_ble_eq_true rfl) ok114 ((congrFun (eq114 a0 a1 _ _) w).mpr h)
theorem en114 (args : Array Value) (w : World) : (callFunc 114 args).run P w = .ok (.enter 114 args) w := by kernel_rfl

/-! ### evenhand / wrap.Less -/
def S115 (a0 a1 : Value) (ret : Value → C) (pn : Pn) : C :=
 nextS P (binN .lss 2 (Operand.tmp 5) (Operand.tmp 6) a0 a1) (fun x7_1 =>
 callS P 120 #[x7_1] (fun x8_2 =>
 ret x8_2) pn) pn
def mo115 : Nat → Mo := fun _ => .done
def lv115 : Nat → List Nat := fun _ => []
theorem ok115 : okC Tryz.f115.ntmps mo115 (Tryz.f115.body.getD .skip) = true := by kernel_rfl
theorem eq115 (a0 a1 : Value) (ret : Value → C) (pn : Pn) : D P mo115 lv115 pn (Tryz.f115.body.getD .skip) (finQ P Tryz.f115.results ret) (env0 [a0, a1]) = S115 a0 a1 ret pn := by kernel_rfl
theorem c115 {a0 a1 : Value} {R : Ending → World → Prop} {w : World} (h : S115 a0 a1 (fun v w => R (.returned v) w) (fun c w => R (.panicked c) w) w) : Calls P 115 #[a0, a1] w R :=
  callsD mixed mo115 lv115 Tryz.func115 rfl (Nat.le_of_ble_eq_true rfl) ok115 ((congrFun (eq115 a0 a1 _ _) w).mpr h)
theorem en115 (args : Array Value) (w : World) : (callFunc 115 args).run P w = .ok (.enter 115 args) w := by kernel_rfl

/-! ### evenhand / wrap.Same -/
def S116 (a0 a1 : Value) (ret : Value → C) (pn : Pn) : C :=
 nextS P (binN .eql 2 (Operand.tmp 5) (Operand.tmp 6) a0 a1) (fun x7_1 =>
 callS P 120 #[x7_1] (fun x8_2 =>
 ret x8_2) pn) pn
def mo116 : Nat → Mo := fun _ => .done
def lv116 : Nat → List Nat := fun _ => []
theorem ok116 : okC Tryz.f116.ntmps mo116 (Tryz.f116.body.getD .skip) = true := by kernel_rfl
theorem eq116 (a0 a1 : Value) (ret : Value → C) (pn : Pn) : D P mo116 lv116 pn (Tryz.f116.body.getD .skip) (finQ P Tryz.f116.results ret) (env0 [a0, a1]) = S116 a0 a1 ret pn := by kernel_rfl
theorem c116 {a0 a1 : Value} {R : Ending → World → Prop} {w : World} (h : S116 a0 a1 (fun v w => R (.returned v) w) (fun c w => R (.panicked c) w) w) : Calls P 116 #[a0, a1] w R :=
  callsD mixed mo116 lv116 Tryz.func116 rfl (Nat.le_of_ble_eq_true rfl) ok116 ((congrFun (eq116 a0 a1 _ _) w).mpr h)
theorem en116 (args : Array Value) (w : World) : (callFunc 116 args).run P w = .ok (.enter 116 args) w := by kernel_rfl

/-! ### evenhand / wrap.And -/
def S117 (a0 a1 : Value) (ret : Value → C) (pn : Pn) : C :=
 nextS P (binN .and 2 (Operand.tmp 5) (Operand.tmp 6) a0 a1) (fun x7_1 =>
 ret x7_1) pn
def mo117 : Nat → Mo := fun _ => .done
def lv117 : Nat → List Nat := fun _ => []
theorem ok117 : okC Tryz.f117.ntmps mo117 (Tryz.f117.body.getD .skip) = true := by kernel_rfl
theorem eq117 (a0 a1 : Value) (ret : Value → C) (pn : Pn) : D P mo117 lv117 pn (Tryz.f117.body.getD .skip) (finQ P Tryz.f117.results ret) (env0 [a0, a1]) = S117 a0 a1 ret pn := by kernel_rfl
theorem c117 {a0 a1 : Value} {R : Ending → World → Prop} {w : World} (h : S117 a0 a1 (fun v w => R (.returned v) w) (fun c w => R (.panicked c) w) w) : Calls P 117 #[a0, a1] w R :=
  callsD mixed mo117 lv117 Tryz.func117 rfl (Nat.le_of_ble_eq_true rfl) ok117 ((congrFun (eq117 a0 a1 _ _) w).mpr h)
theorem en117 (args : Array Value) (w : World) : (callFunc 117 args).run P w = .ok (.enter 117 args) w := by kernel_rfl

/-! ### evenhand / wrap.Or -/
def S118 (a0 a1 : Value) (ret : Value → C) (pn : Pn) : C :=
 nextS P (binN .or 2 (Operand.tmp 5) (Operand.tmp 6) a0 a1) (fun x7_1 =>
 ret x7_1) pn
def mo118 : Nat → Mo := fun _ => .done
def lv118 : Nat → List Nat := fun _ => []
theorem ok118 : okC Tryz.f118.ntmps mo118 (Tryz.f118.body.getD .skip) = true := by kernel_rfl
theorem eq118 (a0 a1 : Value) (ret : Value → C) (pn : Pn) : D P mo118 lv118 pn (Tryz.f118.body.getD .skip) (finQ P Tryz.f118.results ret) (env0 [a0, a1]) = S118 a0 a1 ret pn := by kernel_rfl
theorem c118 {a0 a1 : Value} {R : Ending → World → Prop} {w : World} (h : S118 a0 a1 (fun v w => R (.returned v) w) (fun c w => R (.panicked c) w) w) : Calls P 118 #[a0, a1] w R :=
  callsD mixed mo118 lv118 Tryz.func118 rfl (Nat.le_of_ble_eq_true rfl) ok118 ((congrFun (eq118 a0 a1 _ _) w).mpr h)
theorem en118 (args : Array Value) (w : World) : (callFunc 118 args).run P w = .ok (.enter 118 args) w := by kernel_rfl

/-! ### evenhand / wrap.flag -/
def S120 (a0 : Value) (ret : Value → C) (pn : Pn) : C :=
 condS a0
 (ret (Value.int IntKind.i64 1))
 (ret (Value.int IntKind.i64 0))
def mo120 : Nat → Mo := fun _ => .done
def lv120 : Nat → List Nat := fun _ => []
theorem ok120 : okC Tryz.f120.ntmps mo120 (Tryz.f120.body.getD .skip) = true := by kernel_rfl
theorem eq120 (a0 : Value) (ret : Value → C) (pn : Pn) : D P mo120 lv120 pn (Tryz.f120.body.getD .skip) (finQ P Tryz.f120.results ret) (env0 [a0]) = S120 a0 ret pn := by kernel_rfl
theorem c120 {a0 : Value} {R : Ending → World → Prop} {w : World} (h : S120 a0 (fun v w => R (.returned v) w) (fun c w => R (.panicked c) w) w) : Calls P 120 #[a0] w R :=
  callsD mixed mo120 lv120 Tryz.func120 rfl (Nat.le_of_ble_eq_true rfl) ok120 ((congrFun (eq120 a0 _ _) w).mpr h)
theorem en120 (args : Array Value) (w : World) : (callFunc 120 args).run P w = .ok (.enter 120 args) w := by kernel_rfl

end Go.Proofs.YtkonigmefmgepaaGreatDoor
