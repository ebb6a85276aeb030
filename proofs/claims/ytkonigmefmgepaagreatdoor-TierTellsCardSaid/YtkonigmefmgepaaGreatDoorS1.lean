/- The shallow forms of the loaded functions, written by wip/gen.py out of the print of the loaded program: no idea stands in it. -/
import Derived.Test.YtkonigmefmgepaaGreatDoorS0
import Derived.Test.YtkonigmefmgepaaGreatDoorProg
namespace Go.Proofs.YtkonigmefmgepaaGreatDoor
set_option maxRecDepth 100000
set_option linter.unusedVariables false
/-! ### (*evenhand / evenhandref19.Manager).Enter -/
def S10_k3 (ret : Value → C) (pn : Pn) (y0 y1 y2 y10 : Value) : C :=
 callS P 27 #[y0, y1] (fun x83_49 =>
 nextS P (binN .lss 3 (Operand.tmp 84) (Operand.const (Value.int IntKind.i64 0)) x83_49 (Value.int IntKind.i64 0)) (fun x85_50 =>
 condS x85_50
 (ret (.tuple #[(Value.slice none 0 0), (Value.bool false), y10]))
 (nextS P (nilN y0) (fun x88_51 =>
 nextS P (V (Instr.fieldAt 50 x88_51 4)) (fun x89_52 =>
 nextS P (V (Instr.loadAt 47 x89_52)) (fun x90_53 =>
 nextS P (V (Instr.indexAt 47 x90_53 x83_49)) (fun x92_54 =>
 nextS P (V (Instr.loadAt 92 x92_54)) (fun x93_55 =>
 nextS P (V (Instr.alloc 92 true (.tuple #[]))) (fun x12_56 =>
 nextS P (U (Instr.storeAt 92 x12_56 x93_55)) (fun _ =>
 DrawS fun S =>
 pureS P (V (Instr.fieldAt 92 x12_56 2)) fun x94_58 =>
 takeS S P (V (Instr.loadAt 4 x94_58)) fun x95_59 =>
 grdS x95_59 true (fun K => K y2) fun x97_60 =>
 grdS x95_59 true (pureS P (V (Instr.fieldAt 92 x12_56 3))) fun x98_61 =>
 grdS x95_59 true (takeS S P (V (Instr.loadAt 3 x98_61))) fun x99_62 =>
 grdS x95_59 true (pureS P (V (Instr.fieldAt 92 x12_56 4))) fun x101_63 =>
 grdS x95_59 true (takeS S P (V (Instr.loadAt 2 x101_63))) fun x102_64 =>
 grdS x95_59 true (fun K => callS P 30 #[x97_60, x99_62] K pn) fun x100_65 w => S w ∧ (grdS x95_59 true (pureS P (binN .neq 2 (Operand.tmp 100) (Operand.tmp 102) x100_65 x102_64)) fun x103_66 =>
 pureS P (pickN x95_59 x103_66 (Value.bool false)) fun x104_67 =>
 condS x104_67
 (nextS P (nilN y0) (fun x107_68 =>
 nextS P (V (Instr.fieldAt 50 x107_68 5)) (fun x108_69 =>
 nextS P (V (Instr.loadAt 48 x108_69)) (fun x109_70 =>
 nextS P (V (Instr.build 53 #[(0, (Value.int IntKind.i64 3)), (1, y1)])) (fun x111_71 =>
 nextS P (V (Instr.buildSlice 48 1 #[(0, x111_71)])) (fun x112_72 =>
 nextS P (bltN .append #[48, 48] 48 #[false, false] #[x109_70, x112_72]) (fun x113_73 =>
 nextS P (nilN y0) (fun x114_74 =>
 nextS P (V (Instr.fieldAt 50 x114_74 5)) (fun x115_75 =>
 nextS P (U (Instr.storeAt 48 x115_75 x113_73)) (fun _ =>
 nextS P (binN .add 2 (Operand.tmp 116) (Operand.const (Value.int IntKind.i64 50)) y10 (Value.int IntKind.i64 50)) (fun x117_77 =>
 ret (.tuple #[(Value.slice none 0 0), (Value.bool false), x117_77])) pn) pn) pn) pn) pn) pn) pn) pn) pn) pn)
 (nextS P (nilN y0) (fun x120_78 =>
 nextS P (V (Instr.fieldAt 50 x120_78 5)) (fun x121_79 =>
 nextS P (V (Instr.loadAt 48 x121_79)) (fun x122_80 =>
 nextS P (V (Instr.build 53 #[(0, (Value.int IntKind.i64 2)), (1, y1)])) (fun x124_81 =>
 nextS P (V (Instr.buildSlice 48 1 #[(0, x124_81)])) (fun x125_82 =>
 nextS P (bltN .append #[48, 48] 48 #[false, false] #[x122_80, x125_82]) (fun x126_83 =>
 nextS P (nilN y0) (fun x127_84 =>
 nextS P (V (Instr.fieldAt 50 x127_84 5)) (fun x128_85 =>
 nextS P (U (Instr.storeAt 48 x128_85 x126_83)) (fun _ =>
 nextS P (V (Instr.fieldAt 92 x12_56 1)) (fun x129_87 =>
 nextS P (V (Instr.loadAt 41 x129_87)) (fun x130_88 =>
 ret (.tuple #[x130_88, (Value.bool true), y10])) pn) pn) pn) pn) pn) pn) pn) pn) pn) pn) pn)) w) pn) pn) pn) pn) pn) pn) pn)) pn) pn
def S10_k2 (ret : Value → C) (pn : Pn) (y0 y1 y2 y9 y10 y11 : Value) : C :=
 nextS P (binN .eql 2 (Operand.tmp 72) (Operand.const (Value.int IntKind.i64 3)) y9 (Value.int IntKind.i64 3)) (fun x73_44 =>
 grdS x73_44 true (fun K => K y11) fun x75_45 =>
 grdS x73_44 true (fun K => nextS P (binN .geq 3 (Operand.tmp 75) (Operand.const (Value.int IntKind.i64 0)) x75_45 (Value.int IntKind.i64 0)) K pn) fun x76_46 =>
 nextS P (pickN x73_44 x76_46 (Value.bool false)) (fun x77_47 =>
 condS x77_47
 (callS P 29 #[y0, y11] (fun x80_48 =>
 S10_k3 ret pn y0 y1 y2 y10) pn)
 (S10_k3 ret pn y0 y1 y2 y10)) pn) pn
def S10_k1 (ret : Value → C) (pn : Pn) (y0 y1 y2 y9 : Value) : C :=
 callS P 27 #[y0, y1] (fun x46_27 =>
 nextS P (binN .eql 2 (Operand.tmp 47) (Operand.const (Value.int IntKind.i64 1)) y9 (Value.int IntKind.i64 1)) (fun x48_28 =>
 grdS x48_28 false (fun K => K y9) fun x50_29 =>
 grdS x48_28 false (fun K => nextS P (binN .eql 2 (Operand.tmp 50) (Operand.const (Value.int IntKind.i64 2)) x50_29 (Value.int IntKind.i64 2)) K pn) fun x51_30 =>
 nextS P (pickN x48_28 (Value.bool true) x51_30) (fun x52_31 =>
 grdS x52_31 true (fun K => K x46_27) fun x54_32 =>
 grdS x52_31 true (fun K => nextS P (binN .lss 3 (Operand.tmp 54) (Operand.const (Value.int IntKind.i64 0)) x54_32 (Value.int IntKind.i64 0)) K pn) fun x55_33 =>
 nextS P (pickN x52_31 x55_33 (Value.bool false)) (fun x56_34 =>
 condS x56_34
 (callS P 28 #[y0, y1, y9, y2] (fun x61_35 =>
 nextS P (nilN y0) (fun x63_36 =>
 nextS P (V (Instr.fieldAt 50 x63_36 0)) (fun x64_37 =>
 nextS P (V (Instr.loadAt 34 x64_37)) (fun x65_38 =>
 nextS P (V (Instr.indexAt 34 x65_38 y1)) (fun x67_39 =>
 nextS P (V (Instr.fieldAt 74 x67_39 4)) (fun x68_40 =>
 nextS P (V (Instr.loadAt 41 x68_40)) (fun x69_41 =>
 nextS P (bltN .len #[41] 3 #[false] #[x69_41]) (fun x70_42 =>
 nextS P (binN .mul 2 (Operand.const (Value.int IntKind.i64 2)) (Operand.tmp 70) (Value.int IntKind.i64 2) x70_42) (fun x71_43 =>
 S10_k2 ret pn y0 y1 y2 y9 x71_43 x46_27) pn) pn) pn) pn) pn) pn) pn) pn) pn)
 (S10_k2 ret pn y0 y1 y2 y9 (Value.int IntKind.i64 0) x46_27)) pn) pn) pn) pn
def S10 (a0 a1 a2 : Value) (ret : Value → C) (pn : Pn) : C :=
 nextS P (binN .lss 3 (Operand.tmp 13) (Operand.const (Value.int IntKind.i64 1)) a1 (Value.int IntKind.i64 1)) (fun x14_1 =>
 grdS x14_1 false (fun K => K a1) fun x16_2 =>
 grdS x14_1 false (fun K => K a0) fun x17_3 =>
 grdS x14_1 false (fun K => nextS P (nilN x17_3) K pn) fun x18_4 =>
 grdS x14_1 false (fun K => nextS P (V (Instr.fieldAt 50 x18_4 0)) K pn) fun x19_5 =>
 grdS x14_1 false (fun K => nextS P (V (Instr.loadAt 34 x19_5)) K pn) fun x20_6 =>
 grdS x14_1 false (fun K => nextS P (bltN .len #[34] 3 #[false] #[x20_6]) K pn) fun x21_7 =>
 grdS x14_1 false (fun K => nextS P (binN .geq 3 (Operand.tmp 16) (Operand.tmp 21) x16_2 x21_7) K pn) fun x22_8 =>
 nextS P (pickN x14_1 (Value.bool true) x22_8) (fun x23_9 =>
 condS x23_9
 (ret (.tuple #[(Value.slice none 0 0), (Value.bool false), (Value.int IntKind.i64 0)]))
 (nextS P (nilN a0) (fun x25_10 =>
 nextS P (V (Instr.fieldAt 50 x25_10 3)) (fun x26_11 =>
 nextS P (V (Instr.loadAt 26 x26_11)) (fun x27_12 =>
 nextS P (bltN .len #[26] 3 #[false] #[x27_12]) (fun x28_13 =>
 nextS P (binN .gtr 3 (Operand.tmp 28) (Operand.const (Value.int IntKind.i64 0)) x28_13 (Value.int IntKind.i64 0)) (fun x29_14 =>
 condS x29_14
 (nextS P (nilN a0) (fun x31_15 =>
 nextS P (V (Instr.fieldAt 50 x31_15 3)) (fun x32_16 =>
 nextS P (V (Instr.loadAt 26 x32_16)) (fun x33_17 =>
 nextS P (V (Instr.indexAt 26 x33_17 (Value.int IntKind.i64 0))) (fun x34_18 =>
 nextS P (V (Instr.loadAt 2 x34_18)) (fun x35_19 =>
 nextS P (nilN a0) (fun x38_20 =>
 nextS P (V (Instr.fieldAt 50 x38_20 3)) (fun x39_21 =>
 nextS P (V (Instr.loadAt 26 x39_21)) (fun x40_22 =>
 nextS P (V (Instr.sliceAt 26 x40_22 (some (Value.int IntKind.i64 1)) none none)) (fun x41_23 =>
 nextS P (nilN a0) (fun x42_24 =>
 nextS P (V (Instr.fieldAt 50 x42_24 3)) (fun x43_25 =>
 nextS P (U (Instr.storeAt 26 x43_25 x41_23)) (fun _ =>
 S10_k1 ret pn a0 a1 a2 x35_19) pn) pn) pn) pn) pn) pn) pn) pn) pn) pn) pn) pn)
 (S10_k1 ret pn a0 a1 a2 (Value.int IntKind.i64 0))) pn) pn) pn) pn) pn)) pn) pn
def mo10 : Nat → Mo
  | 18 => (Mo.take 0 (Mo.take 1 (Mo.take 2 (Mo.take 3 (Mo.take 4 (Mo.take 5 (Mo.take 7 (Mo.take 8 (Mo.eff 6 (Mo.take 9 (Mo.take 10 Mo.done)))))))))))
  | _ => .done
def lv10 : Nat → List Nat := fun _ => []
theorem ok10 : okC Tryz.f10.ntmps mo10 (Tryz.f10.body.getD .skip) = true := by kernel_rfl
theorem eq10 (a0 a1 a2 : Value) (ret : Value → C) (pn : Pn) : D P mo10 lv10 pn (Tryz.f10.body.getD .skip) (finQ P Tryz.f10.results ret) (env0 [a0, a1, a2]) = S10 a0 a1 a2 ret pn := by kernel_rfl
theorem c10 {a0 a1 a2 : Value} {R : Ending → World → Prop} {w : World} (h : S10 a0 a1 a2 (fun v w => R (.returned v) w) (fun c w => R (.panicked c) w) w) : Calls P 10 #[a0, a1, a2] w R :=
  callsD mixed mo10 lv10 Tryz.func10 rfl (Nat.le_of_ble_eq_true rfl) ok10 ((congrFun (eq10 a0 a1 a2 _ _) w).mpr h)
theorem en10 (args : Array Value) (w : World) : (callFunc 10 args).run P w = .ok (.enter 10 args) w := by kernel_rfl

/-! ### evenhand / evenhandlaw19.same -/
def S11_l1 (nx1 : List Value → C) (ret : Value → C) (pn : Pn) (e : Env) : C :=
 nextS P (bltN .len #[36] 3 #[false] #[(e 0)]) (fun x13_4 =>
 nextS P (binN .lss 3 (Operand.tmp 11) (Operand.tmp 13) (e 5) x13_4) (fun x14_5 =>
 condS x14_5
 (DrawS fun S =>
 pureS P (V (Instr.indexAt 36 (e 0) (e 5))) fun x19_6 =>
 pureS P (V (Instr.fieldAt 69 x19_6 0)) fun x20_7 =>
 takeS S P (V (Instr.loadAt 3 x20_7)) fun x21_8 =>
 pureS P (V (Instr.indexAt 41 (e 1) (e 5))) fun x24_9 =>
 pureS P (V (Instr.fieldAt 75 x24_9 0)) fun x25_10 =>
 takeS S P (V (Instr.loadAt 3 x25_10)) fun x26_11 =>
 pureS P (binN .neq 3 (Operand.tmp 21) (Operand.tmp 26) x21_8 x26_11) fun x27_12 =>
 grdS x27_12 false (fun K => K (e 0)) fun x29_13 =>
 grdS x27_12 false (fun K => K (e 5)) fun x30_14 =>
 grdS x27_12 false (pureS P (V (Instr.indexAt 36 x29_13 x30_14))) fun x31_15 =>
 grdS x27_12 false (pureS P (V (Instr.fieldAt 69 x31_15 1))) fun x32_16 =>
 grdS x27_12 false (takeS S P (V (Instr.loadAt 3 x32_16))) fun x33_17 =>
 grdS x27_12 false (fun K => K (e 1)) fun x34_18 =>
 grdS x27_12 false (fun K => K (e 5)) fun x35_19 =>
 grdS x27_12 false (pureS P (V (Instr.indexAt 41 x34_18 x35_19))) fun x36_20 =>
 grdS x27_12 false (pureS P (V (Instr.fieldAt 75 x36_20 1))) fun x37_21 =>
 grdS x27_12 false (takeS S P (V (Instr.loadAt 3 x37_21))) fun x38_22 =>
 grdS x27_12 false (pureS P (binN .neq 3 (Operand.tmp 33) (Operand.tmp 38) x33_17 x38_22)) fun x39_23 =>
 pureS P (pickN x27_12 (Value.bool true) x39_23) fun x40_24 =>
 grdS x40_24 false (fun K => K (e 0)) fun x42_25 =>
 grdS x40_24 false (fun K => K (e 5)) fun x43_26 =>
 grdS x40_24 false (pureS P (V (Instr.indexAt 36 x42_25 x43_26))) fun x44_27 =>
 grdS x40_24 false (pureS P (V (Instr.fieldAt 69 x44_27 2))) fun x45_28 =>
 grdS x40_24 false (takeS S P (V (Instr.loadAt 2 x45_28))) fun x46_29 =>
 grdS x40_24 false (fun K => K (e 1)) fun x47_30 =>
 grdS x40_24 false (fun K => K (e 5)) fun x48_31 =>
 grdS x40_24 false (pureS P (V (Instr.indexAt 41 x47_30 x48_31))) fun x49_32 =>
 grdS x40_24 false (pureS P (V (Instr.fieldAt 75 x49_32 2))) fun x50_33 =>
 grdS x40_24 false (takeS S P (V (Instr.loadAt 2 x50_33))) fun x51_34 =>
 grdS x40_24 false (pureS P (binN .neq 2 (Operand.tmp 46) (Operand.tmp 51) x46_29 x51_34)) fun x52_35 =>
 pureS P (pickN x40_24 (Value.bool true) x52_35) fun x53_36 =>
 condS x53_36
 (ret (Value.bool false))
 (nextS P (binN .add 3 (Operand.tmp 15) (Operand.const (Value.int IntKind.i64 1)) (e 5) (Value.int IntKind.i64 1)) (fun x16_37 =>
 nx1 [(e 0), (e 1), x16_37]) pn))
 (ret (Value.bool true))) pn) pn
def S11 (a0 a1 : Value) (ret : Value → C) (pn : Pn) : C :=
 nextS P (bltN .len #[36] 3 #[false] #[a0]) (fun x7_1 =>
 nextS P (bltN .len #[41] 3 #[false] #[a1]) (fun x9_2 =>
 nextS P (binN .neq 3 (Operand.tmp 7) (Operand.tmp 9) x7_1 x9_2) (fun x10_3 =>
 condS x10_3
 (ret (Value.bool false))
 (LoopS [a0, a1, (Value.int IntKind.i64 0)] [0, 1, 5] fun nx1 e => S11_l1 nx1 ret pn e)) pn) pn) pn
def mo11 : Nat → Mo
  | 6 => (Mo.take 0 (Mo.take 1 (Mo.take 2 (Mo.take 3 (Mo.take 4 (Mo.take 5 (Mo.take 6 (Mo.take 7 (Mo.take 8 (Mo.take 9 (Mo.take 10 (Mo.take 11 (Mo.take 12 (Mo.take 13 (Mo.take 14 (Mo.take 15 (Mo.take 16 (Mo.take 17 (Mo.take 18 (Mo.take 19 (Mo.take 20 (Mo.take 21 (Mo.take 22 (Mo.take 23 (Mo.take 24 (Mo.take 25 (Mo.take 26 (Mo.take 27 (Mo.take 28 (Mo.take 29 (Mo.take 30 (Mo.take 31 (Mo.take 32 (Mo.take 33 (Mo.take 34 (Mo.take 35 (Mo.take 36 Mo.done)))))))))))))))))))))))))))))))))))))
  | _ => .done
def lv11 : Nat → List Nat
  | 4 => [0, 1, 5]
  | _ => []
theorem ok11 : okC Tryz.f11.ntmps mo11 (Tryz.f11.body.getD .skip) = true := by kernel_rfl
theorem eq11 (a0 a1 : Value) (ret : Value → C) (pn : Pn) : D P mo11 lv11 pn (Tryz.f11.body.getD .skip) (finQ P Tryz.f11.results ret) (env0 [a0, a1]) = S11 a0 a1 ret pn := by kernel_rfl
theorem c11 {a0 a1 : Value} {R : Ending → World → Prop} {w : World} (h : S11 a0 a1 (fun v w => R (.returned v) w) (fun c w => R (.panicked c) w) w) : Calls P 11 #[a0, a1] w R :=
  callsD mixed mo11 lv11 Tryz.func11 rfl (Nat.le_of_ble_eq_true rfl) ok11 ((congrFun (eq11 a0 a1 _ _) w).mpr h)
theorem en11 (args : Array Value) (w : World) : (callFunc 11 args).run P w = .ok (.enter 11 args) w := by kernel_rfl

/-! ### (*evenhand / tier.Manager).Events -/
def S12 (a0 : Value) (ret : Value → C) (pn : Pn) : C :=
 nextS P (nilN a0) (fun x4_1 =>
 nextS P (V (Instr.fieldAt 66 x4_1 6)) (fun x5_2 =>
 nextS P (V (Instr.loadAt 45 x5_2)) (fun x6_3 =>
 callS P 31 #[x6_3] (fun x7_4 =>
 ret x7_4) pn) pn) pn) pn
def mo12 : Nat → Mo := fun _ => .done
def lv12 : Nat → List Nat := fun _ => []
theorem ok12 : okC Tryz.f12.ntmps mo12 (Tryz.f12.body.getD .skip) = true := by kernel_rfl
theorem eq12 (a0 : Value) (ret : Value → C) (pn : Pn) : D P mo12 lv12 pn (Tryz.f12.body.getD .skip) (finQ P Tryz.f12.results ret) (env0 [a0]) = S12 a0 ret pn := by kernel_rfl
theorem c12 {a0 : Value} {R : Ending → World → Prop} {w : World} (h : S12 a0 (fun v w => R (.returned v) w) (fun c w => R (.panicked c) w) w) : Calls P 12 #[a0] w R :=
  callsD mixed mo12 lv12 Tryz.func12 rfl (Nat.le_of_ble_eq_true rfl) ok12 ((congrFun (eq12 a0 _ _) w).mpr h)
theorem en12 (args : Array Value) (w : World) : (callFunc 12 args).run P w = .ok (.enter 12 args) w := by kernel_rfl

/-! ### evenhand / evenhandlaw19.pair -/
def S13 (ret : Value → C) (pn : Pn) : C :=
 nextS P (V (Instr.alloc 24 true (.tuple #[]))) (fun x0_1 =>
 nextS P (V (Instr.build 69 #[(0, (Value.int IntKind.i64 2))])) (fun x2_2 =>
 nextS P (V (Instr.build 69 #[(0, (Value.int IntKind.i64 1)), (2, (Value.int IntKind.i64 3))])) (fun x3_3 =>
 nextS P (V (Instr.build 69 #[(0, (Value.int IntKind.i64 8))])) (fun x4_4 =>
 nextS P (V (Instr.build 69 #[(0, (Value.int IntKind.i64 18))])) (fun x5_5 =>
 nextS P (V (Instr.buildSlice 36 4 #[(0, x2_2), (1, x3_3), (2, x4_4), (3, x5_5)])) (fun x6_6 =>
 nextS P (V (Instr.build 69 #[(0, (Value.int IntKind.i64 1))])) (fun x7_7 =>
 nextS P (V (Instr.build 69 #[(0, (Value.int IntKind.i64 18))])) (fun x8_8 =>
 nextS P (V (Instr.buildSlice 36 2 #[(0, x7_7), (1, x8_8)])) (fun x9_9 =>
 nextS P (V (Instr.build 59 #[(4, x9_9)])) (fun x10_10 =>
 nextS P (V (Instr.build 59 #[(0, (Value.string { data := #[102] })), (1, (Value.int IntKind.i64 1)), (2, (Value.int IntKind.i64 1)), (4, x6_6)])) (fun x12_11 =>
 nextS P (V (Instr.buildSlice 22 2 #[(0, x10_10), (1, x12_11)])) (fun x13_12 =>
 nextS P (V (Instr.build 24 #[(0, x13_12)])) (fun x14_13 =>
 nextS P (U (Instr.storeAt 24 x0_1 x14_13)) (fun _ =>
 cellS P 24 x0_1 ret) pn) pn) pn) pn) pn) pn) pn) pn) pn) pn) pn) pn) pn) pn
def mo13 : Nat → Mo := fun _ => .done
def lv13 : Nat → List Nat := fun _ => []
theorem ok13 : okC Tryz.f13.ntmps mo13 (Tryz.f13.body.getD .skip) = true := by kernel_rfl
theorem eq13 (ret : Value → C) (pn : Pn) : D P mo13 lv13 pn (Tryz.f13.body.getD .skip) (finQ P Tryz.f13.results ret) (env0 []) = S13 ret pn := by kernel_rfl
theorem c13 {R : Ending → World → Prop} {w : World} (h : S13 (fun v w => R (.returned v) w) (fun c w => R (.panicked c) w) w) : Calls P 13 #[] w R :=
  callsD mixed mo13 lv13 Tryz.func13 rfl (Nat.le_of_ble_eq_true rfl) ok13 ((congrFun (eq13  _ _) w).mpr h)
theorem en13 (args : Array Value) (w : World) : (callFunc 13 args).run P w = .ok (.enter 13 args) w := by kernel_rfl

/-! ### evenhand / code.Text -/
def S14_l1 (nx1 : List Value → C) (ret : Value → C) (pn : Pn) (e : Env) : C :=
 nextS P (binN .lss 3 (Operand.tmp 8) (Operand.tmp 7) (e 8) (e 7)) (fun x9_3 =>
 condS x9_3
 (nextS P (V (Instr.indexAt 36 (e 6) (e 8))) (fun x11_4 =>
 nextS P (V (Instr.loadAt 69 x11_4)) (fun x12_5 =>
 nextS P (V (Instr.alloc 69 true (.tuple #[]))) (fun x5_6 =>
 nextS P (U (Instr.storeAt 69 x5_6 x12_5)) (fun _ =>
 nextS P (V (Instr.loadAt 69 x5_6)) (fun x13_8 =>
 callS P 33 #[x13_8, (e 8)] (fun x15_9 =>
 callS P 32 #[(e 3), x15_9] (fun x16_10 =>
 nextS P (binN .add 3 (Operand.tmp 8) (Operand.const (Value.int IntKind.i64 1)) (e 8) (Value.int IntKind.i64 1)) (fun x17_11 =>
 nx1 [(e 3), (e 6), (e 7), x17_11]) pn) pn) pn) pn) pn) pn) pn) pn)
 (callS P 34 #[(e 3)] (fun x18_12 =>
 ret x18_12) pn)) pn
def S14 (a0 : Value) (ret : Value → C) (pn : Pn) : C :=
 nextS P (V (Instr.alloc 98 true (.tuple #[]))) (fun x3_1 =>
 nextS P (bltN .len #[36] 3 #[false] #[a0]) (fun x7_2 =>
 LoopS [x3_1, a0, x7_2, (Value.int IntKind.i64 0)] [3, 6, 7, 8] fun nx1 e => S14_l1 nx1 ret pn e) pn) pn
def mo14 : Nat → Mo := fun _ => .done
def lv14 : Nat → List Nat
  | 3 => [3, 6, 7, 8]
  | _ => []
theorem ok14 : okC Tryz.f14.ntmps mo14 (Tryz.f14.body.getD .skip) = true := by kernel_rfl
theorem eq14 (a0 : Value) (ret : Value → C) (pn : Pn) : D P mo14 lv14 pn (Tryz.f14.body.getD .skip) (finQ P Tryz.f14.results ret) (env0 [a0]) = S14 a0 ret pn := by kernel_rfl
theorem c14 {a0 : Value} {R : Ending → World → Prop} {w : World} (h : S14 a0 (fun v w => R (.returned v) w) (fun c w => R (.panicked c) w) w) : Calls P 14 #[a0] w R :=
  callsD mixed mo14 lv14 Tryz.func14 rfl (Nat.le_of_ble_eq_true rfl) ok14 ((congrFun (eq14 a0 _ _) w).mpr h)
theorem en14 (args : Array Value) (w : World) : (callFunc 14 args).run P w = .ok (.enter 14 args) w := by kernel_rfl

/-! ### evenhand / cache.New -/
def S15 (a0 : Value) (ret : Value → C) (pn : Pn) : C :=
 nextS P (bltN .max #[3, 3] 3 #[false, true] #[a0, (Value.int IntKind.i64 1)]) (fun x4_1 =>
 nextS P (bltN .min #[3, 3] 3 #[false, true] #[x4_1, (Value.int IntKind.i64 32)]) (fun x5_2 =>
 nextS P (V (Instr.makeMap 105 none)) (fun x6_3 =>
 nextS P (V (Instr.build 107 #[(0, x5_2), (2, x6_3)])) (fun x7_4 =>
 nextS P (V (Instr.box 107 x7_4)) (fun x8_5 =>
 ret x8_5) pn) pn) pn) pn) pn
def mo15 : Nat → Mo := fun _ => .done
def lv15 : Nat → List Nat := fun _ => []
theorem ok15 : okC Tryz.f15.ntmps mo15 (Tryz.f15.body.getD .skip) = true := by kernel_rfl
theorem eq15 (a0 : Value) (ret : Value → C) (pn : Pn) : D P mo15 lv15 pn (Tryz.f15.body.getD .skip) (finQ P Tryz.f15.results ret) (env0 [a0]) = S15 a0 ret pn := by kernel_rfl
theorem c15 {a0 : Value} {R : Ending → World → Prop} {w : World} (h : S15 a0 (fun v w => R (.returned v) w) (fun c w => R (.panicked c) w) w) : Calls P 15 #[a0] w R :=
  callsD mixed mo15 lv15 Tryz.func15 rfl (Nat.le_of_ble_eq_true rfl) ok15 ((congrFun (eq15 a0 _ _) w).mpr h)
theorem en15 (args : Array Value) (w : World) : (callFunc 15 args).run P w = .ok (.enter 15 args) w := by kernel_rfl

/-! ### slices.Clone[[]evenhand / code.Ins,evenhand / code.Ins] -/
def S16 (a0 : Value) (ret : Value → C) (pn : Pn) : C :=
 nextS P (binN .eql 36 (Operand.tmp 3) (Operand.const (Value.slice none 0 0)) a0 (Value.slice none 0 0)) (fun x4_1 =>
 condS x4_1
 (ret (Value.slice none 0 0))
 (nextS P (V (Instr.buildSlice 36 0 #[])) (fun x5_2 =>
 nextS P (bltN .append #[36, 36] 36 #[false, false] #[x5_2, a0]) (fun x7_3 =>
 ret x7_3) pn) pn)) pn
def mo16 : Nat → Mo := fun _ => .done
def lv16 : Nat → List Nat := fun _ => []
theorem ok16 : okC Tryz.f16.ntmps mo16 (Tryz.f16.body.getD .skip) = true := by kernel_rfl
theorem eq16 (a0 : Value) (ret : Value → C) (pn : Pn) : D P mo16 lv16 pn (Tryz.f16.body.getD .skip) (finQ P Tryz.f16.results ret) (env0 [a0]) = S16 a0 ret pn := by kernel_rfl
theorem c16 {a0 : Value} {R : Ending → World → Prop} {w : World} (h : S16 a0 (fun v w => R (.returned v) w) (fun c w => R (.panicked c) w) w) : Calls P 16 #[a0] w R :=
  callsD mixed mo16 lv16 Tryz.func16 rfl (Nat.le_of_ble_eq_true rfl) ok16 ((congrFun (eq16 a0 _ _) w).mpr h)
theorem en16 (args : Array Value) (w : World) : (callFunc 16 args).run P w = .ok (.enter 16 args) w := by kernel_rfl

/-! ### slices.Clone[[]bool,bool] -/
def S17 (a0 : Value) (ret : Value → C) (pn : Pn) : C :=
 nextS P (binN .eql 56 (Operand.tmp 3) (Operand.const (Value.slice none 0 0)) a0 (Value.slice none 0 0)) (fun x4_1 =>
 condS x4_1
 (ret (Value.slice none 0 0))
 (nextS P (V (Instr.buildSlice 56 0 #[])) (fun x5_2 =>
 nextS P (bltN .append #[56, 56] 56 #[false, false] #[x5_2, a0]) (fun x7_3 =>
 ret x7_3) pn) pn)) pn
def mo17 : Nat → Mo := fun _ => .done
def lv17 : Nat → List Nat := fun _ => []
theorem ok17 : okC Tryz.f17.ntmps mo17 (Tryz.f17.body.getD .skip) = true := by kernel_rfl
theorem eq17 (a0 : Value) (ret : Value → C) (pn : Pn) : D P mo17 lv17 pn (Tryz.f17.body.getD .skip) (finQ P Tryz.f17.results ret) (env0 [a0]) = S17 a0 ret pn := by kernel_rfl
theorem c17 {a0 : Value} {R : Ending → World → Prop} {w : World} (h : S17 a0 (fun v w => R (.returned v) w) (fun c w => R (.panicked c) w) w) : Calls P 17 #[a0] w R :=
  callsD mixed mo17 lv17 Tryz.func17 rfl (Nat.le_of_ble_eq_true rfl) ok17 ((congrFun (eq17 a0 _ _) w).mpr h)
theorem en17 (args : Array Value) (w : World) : (callFunc 17 args).run P w = .ok (.enter 17 args) w := by kernel_rfl

/-! ### evenhand / profile.New -/
def S18_l1 (nx1 : List Value → C) (ret : Value → C) (pn : Pn) (e : Env) : C :=
 nextS P (binN .lss 3 (Operand.tmp 10) (Operand.tmp 9) (e 10) (e 9)) (fun x11_4 =>
 condS x11_4
 (nextS P (V (Instr.indexAt 71 (e 8) (e 10))) (fun x12_5 =>
 nextS P (V (Instr.loadAt 3 x12_5)) (fun x13_6 =>
 nextS P (nilN (e 3)) (fun x16_7 =>
 nextS P (V (Instr.fieldAt 110 x16_7 0)) (fun x17_8 =>
 nextS P (V (Instr.loadAt 108 x17_8)) (fun x18_9 =>
 nextS P (bltN .max #[3, 3] 3 #[false, true] #[x13_6, (Value.int IntKind.i64 0)]) (fun x20_10 =>
 nextS P (bltN .min #[3, 3] 3 #[false, true] #[x20_10, (Value.int IntKind.i64 8)]) (fun x21_11 =>
 nextS P (V (Instr.build 115 #[(0, x21_11)])) (fun x22_12 =>
 nextS P (V (Instr.buildSlice 108 1 #[(0, x22_12)])) (fun x23_13 =>
 nextS P (bltN .append #[108, 108] 108 #[false, false] #[x18_9, x23_13]) (fun x24_14 =>
 nextS P (nilN (e 3)) (fun x25_15 =>
 nextS P (V (Instr.fieldAt 110 x25_15 0)) (fun x26_16 =>
 nextS P (U (Instr.storeAt 108 x26_16 x24_14)) (fun _ =>
 nextS P (binN .add 3 (Operand.tmp 10) (Operand.const (Value.int IntKind.i64 1)) (e 10) (Value.int IntKind.i64 1)) (fun x27_18 =>
 nx1 [(e 3), (e 8), (e 9), x27_18]) pn) pn) pn) pn) pn) pn) pn) pn) pn) pn) pn) pn) pn) pn)
 (ret (e 3))) pn
def S18 (a0 : Value) (ret : Value → C) (pn : Pn) : C :=
 nextS P (V (Instr.build 110 #[])) (fun x6_1 =>
 nextS P (V (Instr.box 110 x6_1)) (fun x7_2 =>
 nextS P (bltN .len #[71] 3 #[false] #[a0]) (fun x9_3 =>
 LoopS [x7_2, a0, x9_3, (Value.int IntKind.i64 0)] [3, 8, 9, 10] fun nx1 e => S18_l1 nx1 ret pn e) pn) pn) pn
def mo18 : Nat → Mo := fun _ => .done
def lv18 : Nat → List Nat
  | 3 => [3, 8, 9, 10]
  | _ => []
theorem ok18 : okC Tryz.f18.ntmps mo18 (Tryz.f18.body.getD .skip) = true := by kernel_rfl
theorem eq18 (a0 : Value) (ret : Value → C) (pn : Pn) : D P mo18 lv18 pn (Tryz.f18.body.getD .skip) (finQ P Tryz.f18.results ret) (env0 [a0]) = S18 a0 ret pn := by kernel_rfl
theorem c18 {a0 : Value} {R : Ending → World → Prop} {w : World} (h : S18 a0 (fun v w => R (.returned v) w) (fun c w => R (.panicked c) w) w) : Calls P 18 #[a0] w R :=
  callsD mixed mo18 lv18 Tryz.func18 rfl (Nat.le_of_ble_eq_true rfl) ok18 ((congrFun (eq18 a0 _ _) w).mpr h)
theorem en18 (args : Array Value) (w : World) : (callFunc 18 args).run P w = .ok (.enter 18 args) w := by kernel_rfl

/-! ### (*evenhand / tier.Manager).seen -/
def S19_k2 (nx1 : List Value → C) (ret : Value → C) (pn : Pn) (y0 y1 y7 y17 y18 : Value) : C :=
 nextS P (binN .add 3 (Operand.tmp 18) (Operand.const (Value.int IntKind.i64 1)) y18 (Value.int IntKind.i64 1)) (fun x29_10 =>
 nx1 [y0, y1, y7, y17, x29_10]) pn
def S19_l1 (nx1 : List Value → C) (ret : Value → C) (pn : Pn) (e : Env) : C :=
 nextS P (binN .lss 3 (Operand.tmp 18) (Operand.tmp 17) (e 18) (e 17)) (fun x19_5 =>
 condS x19_5
 (callS P 36 #[(e 0), (e 1), (e 18)] (fun x24_6 =>
 nextS P (V (Op.unary .not x24_6)) (fun x25_7 =>
 condS x25_7
 (nextS P (V (Instr.indexAt 26 (e 7) (e 18))) (fun x28_8 =>
 nextS P (U (Instr.storeAt 2 x28_8 (Value.int IntKind.i64 0))) (fun _ =>
 S19_k2 nx1 ret pn (e 0) (e 1) (e 7) (e 17) (e 18)) pn) pn)
 (S19_k2 nx1 ret pn (e 0) (e 1) (e 7) (e 17) (e 18))) pn) pn)
 (ret (e 7))) pn
def S19 (a0 a1 a2 : Value) (ret : Value → C) (pn : Pn) : C :=
 callS P 35 #[a0, a1] (fun x11_1 =>
 nextS P (V (Instr.makeSlice 26 x11_1 x11_1)) (fun x12_2 =>
 nextS P (bltN .copy #[26, 26] 3 #[false, false] #[x12_2, a2]) (fun x15_3 =>
 nextS P (bltN .len #[26] 3 #[false] #[x12_2]) (fun x17_4 =>
 LoopS [a0, a1, x12_2, x17_4, (Value.int IntKind.i64 0)] [0, 1, 7, 17, 18] fun nx1 e => S19_l1 nx1 ret pn e) pn) pn) pn) pn
def mo19 : Nat → Mo := fun _ => .done
def lv19 : Nat → List Nat
  | 4 => [0, 1, 7, 17, 18]
  | _ => []
theorem ok19 : okC Tryz.f19.ntmps mo19 (Tryz.f19.body.getD .skip) = true := by kernel_rfl
theorem eq19 (a0 a1 a2 : Value) (ret : Value → C) (pn : Pn) : D P mo19 lv19 pn (Tryz.f19.body.getD .skip) (finQ P Tryz.f19.results ret) (env0 [a0, a1, a2]) = S19 a0 a1 a2 ret pn := by kernel_rfl
theorem c19 {a0 a1 a2 : Value} {R : Ending → World → Prop} {w : World} (h : S19 a0 a1 a2 (fun v w => R (.returned v) w) (fun c w => R (.panicked c) w) w) : Calls P 19 #[a0, a1, a2] w R :=
  callsD mixed mo19 lv19 Tryz.func19 rfl (Nat.le_of_ble_eq_true rfl) ok19 ((congrFun (eq19 a0 a1 a2 _ _) w).mpr h)
theorem en19 (args : Array Value) (w : World) : (callFunc 19 args).run P w = .ok (.enter 19 args) w := by kernel_rfl

/-! ### (*evenhand / profile.Profile).See -/
def S20_l1 (nx1 : List Value → C) (ret : Value → C) (pn : Pn) (e : Env) : C :=
 nextS P (binN .lss 3 (Operand.tmp 35) (Operand.tmp 34) (e 35) (e 34)) (fun x36_17 =>
 condS x36_17
 (nextS P (V (Instr.indexAt 26 (e 33) (e 35))) (fun x38_18 =>
 nextS P (V (Instr.loadAt 2 x38_18)) (fun x39_19 =>
 nextS P (nilN (e 7)) (fun x42_20 =>
 nextS P (V (Instr.fieldAt 115 x42_20 2)) (fun x43_21 =>
 nextS P (V (Instr.indexAt 113 x43_21 (e 35))) (fun x44_22 =>
 callS P 38 #[x44_22, x39_19] (fun x46_23 =>
 nextS P (binN .add 3 (Operand.tmp 35) (Operand.const (Value.int IntKind.i64 1)) (e 35) (Value.int IntKind.i64 1)) (fun x47_24 =>
 nx1 [(e 7), (e 33), (e 34), x47_24]) pn) pn) pn) pn) pn) pn) pn)
 (ret (Value.int IntKind.i64 0))) pn
def S20 (a0 a1 a2 : Value) (ret : Value → C) (pn : Pn) : C :=
 callS P 37 #[a0, a1] (fun x12_1 =>
 nextS P (binN .eql 117 (Operand.tmp 14) (Operand.const (Value.pointer none)) x12_1 (Value.pointer none)) (fun x15_2 =>
 condS x15_2
 (ret (Value.int IntKind.i64 11))
 (nextS P (bltN .len #[26] 3 #[false] #[a2]) (fun x18_3 =>
 nextS P (nilN x12_1) (fun x20_4 =>
 nextS P (V (Instr.fieldAt 115 x20_4 0)) (fun x21_5 =>
 nextS P (V (Instr.loadAt 3 x21_5)) (fun x22_6 =>
 nextS P (binN .neq 3 (Operand.tmp 18) (Operand.tmp 22) x18_3 x22_6) (fun x23_7 =>
 condS x23_7
 (ret (Value.int IntKind.i64 1))
 (nextS P (nilN x12_1) (fun x26_8 =>
 nextS P (V (Instr.fieldAt 115 x26_8 1)) (fun x27_9 =>
 nextS P (V (Instr.loadAt 3 x27_9)) (fun x28_10 =>
 nextS P (binN .add 3 (Operand.tmp 28) (Operand.const (Value.int IntKind.i64 1)) x28_10 (Value.int IntKind.i64 1)) (fun x29_11 =>
 nextS P (bltN .min #[3, 3] 3 #[false, true] #[x29_11, (Value.int IntKind.i64 1000)]) (fun x30_12 =>
 nextS P (nilN x12_1) (fun x31_13 =>
 nextS P (V (Instr.fieldAt 115 x31_13 1)) (fun x32_14 =>
 nextS P (U (Instr.storeAt 3 x32_14 x30_12)) (fun _ =>
 nextS P (bltN .len #[26] 3 #[false] #[a2]) (fun x34_16 =>
 LoopS [x12_1, a2, x34_16, (Value.int IntKind.i64 0)] [7, 33, 34, 35] fun nx1 e => S20_l1 nx1 ret pn e) pn) pn) pn) pn) pn) pn) pn) pn) pn)) pn) pn) pn) pn) pn)) pn) pn
def mo20 : Nat → Mo := fun _ => .done
def lv20 : Nat → List Nat
  | 8 => [7, 33, 34, 35]
  | _ => []
theorem ok20 : okC Tryz.f20.ntmps mo20 (Tryz.f20.body.getD .skip) = true := by kernel_rfl
theorem eq20 (a0 a1 a2 : Value) (ret : Value → C) (pn : Pn) : D P mo20 lv20 pn (Tryz.f20.body.getD .skip) (finQ P Tryz.f20.results ret) (env0 [a0, a1, a2]) = S20 a0 a1 a2 ret pn := by kernel_rfl
theorem c20 {a0 a1 a2 : Value} {R : Ending → World → Prop} {w : World} (h : S20 a0 a1 a2 (fun v w => R (.returned v) w) (fun c w => R (.panicked c) w) w) : Calls P 20 #[a0, a1, a2] w R :=
  callsD mixed mo20 lv20 Tryz.func20 rfl (Nat.le_of_ble_eq_true rfl) ok20 ((congrFun (eq20 a0 a1 a2 _ _) w).mpr h)
theorem en20 (args : Array Value) (w : World) : (callFunc 20 args).run P w = .ok (.enter 20 args) w := by kernel_rfl

/-! ### (*evenhand / cache.Cache).Get -/
def S21 (a0 a1 : Value) (ret : Value → C) (pn : Pn) : C :=
 nextS P (nilN a0) (fun x10_1 =>
 nextS P (V (Instr.fieldAt 107 x10_1 2)) (fun x11_2 =>
 nextS P (V (Instr.loadAt 105 x11_2)) (fun x12_3 =>
 nextS P (V (Instr.lookup 105 x12_3 a1 true)) (fun x14_4 =>
 nextS P (V (Instr.extract x14_4 0)) (fun x15_5 =>
 nextS P (V (Instr.extract x14_4 1)) (fun x16_6 =>
 callS P 16 #[x15_5] (fun x18_7 =>
 ret (.tuple #[x18_7, x16_6])) pn) pn) pn) pn) pn) pn) pn
def mo21 : Nat → Mo := fun _ => .done
def lv21 : Nat → List Nat := fun _ => []
theorem ok21 : okC Tryz.f21.ntmps mo21 (Tryz.f21.body.getD .skip) = true := by kernel_rfl
theorem eq21 (a0 a1 : Value) (ret : Value → C) (pn : Pn) : D P mo21 lv21 pn (Tryz.f21.body.getD .skip) (finQ P Tryz.f21.results ret) (env0 [a0, a1]) = S21 a0 a1 ret pn := by kernel_rfl
theorem c21 {a0 a1 : Value} {R : Ending → World → Prop} {w : World} (h : S21 a0 a1 (fun v w => R (.returned v) w) (fun c w => R (.panicked c) w) w) : Calls P 21 #[a0, a1] w R :=
  callsD mixed mo21 lv21 Tryz.func21 rfl (Nat.le_of_ble_eq_true rfl) ok21 ((congrFun (eq21 a0 a1 _ _) w).mpr h)
theorem en21 (args : Array Value) (w : World) : (callFunc 21 args).run P w = .ok (.enter 21 args) w := by kernel_rfl

/-! ### (*evenhand / tier.Manager).pick -/
def S22 (a0 : Value) (ret : Value → C) (pn : Pn) : C :=
 nextS P (nilN a0) (fun x5_1 =>
 nextS P (V (Instr.fieldAt 66 x5_1 3)) (fun x6_2 =>
 nextS P (V (Instr.loadAt 62 x6_2)) (fun x7_3 =>
 commS P (selRecvN x7_3 2) fun x8_4 =>
 nextS P (V (Instr.extract x8_4 0)) (fun x9_5 =>
 nextS P (binN .eql 3 (Operand.tmp 9) (Operand.const (Value.int IntKind.i64 0)) x9_5 (Value.int IntKind.i64 0)) (fun x10_6 =>
 condS x10_6
 (nextS P (V (Instr.extract x8_4 2)) (fun x11_7 =>
 ret x11_7) pn)
 (ret (Value.int IntKind.i64 0))) pn) pn) pn) pn) pn
def mo22 : Nat → Mo := fun _ => .done
def lv22 : Nat → List Nat := fun _ => []
theorem ok22 : okC Tryz.f22.ntmps mo22 (Tryz.f22.body.getD .skip) = true := by kernel_rfl
theorem eq22 (a0 : Value) (ret : Value → C) (pn : Pn) : D P mo22 lv22 pn (Tryz.f22.body.getD .skip) (finQ P Tryz.f22.results ret) (env0 [a0]) = S22 a0 ret pn := by kernel_rfl
theorem c22 {a0 : Value} {R : Ending → World → Prop} {w : World} (h : S22 a0 (fun v w => R (.returned v) w) (fun c w => R (.panicked c) w) w) : Calls P 22 #[a0] w R :=
  callsD mixed mo22 lv22 Tryz.func22 rfl (Nat.le_of_ble_eq_true rfl) ok22 ((congrFun (eq22 a0 _ _) w).mpr h)
theorem en22 (args : Array Value) (w : World) : (callFunc 22 args).run P w = .ok (.enter 22 args) w := by kernel_rfl

/-! ### (*evenhand / tier.Manager).compiles -/
def S23_k1 (ret : Value → C) (pn : Pn) (y0 y1 : Value) : C :=
 nextS P (nilN y0) (fun x32_10 =>
 nextS P (V (Instr.fieldAt 66 x32_10 1)) (fun x33_11 =>
 nextS P (V (Instr.fieldAt 24 x33_11 0)) (fun x34_12 =>
 nextS P (V (Instr.loadAt 22 x34_12)) (fun x35_13 =>
 nextS P (V (Instr.indexAt 22 x35_13 y1)) (fun x37_14 =>
 nextS P (V (Instr.fieldAt 59 x37_14 4)) (fun x38_15 =>
 nextS P (V (Instr.loadAt 36 x38_15)) (fun x39_16 =>
 nextS P (bltN .len #[36] 3 #[false] #[x39_16]) (fun x40_17 =>
 nextS P (binN .mul 3 (Operand.const (Value.int IntKind.i64 2)) (Operand.tmp 40) (Value.int IntKind.i64 2) x40_17) (fun x41_18 =>
 ret x41_18) pn) pn) pn) pn) pn) pn) pn) pn) pn
def S23 (a0 a1 a2 : Value) (ret : Value → C) (pn : Pn) : C :=
 callS P 39 #[a0, a1, a2] (fun x13_1 =>
 callS P 26 #[a0, (Value.int IntKind.i64 1), a1] (fun x16_2 =>
 nextS P (nilN a0) (fun x19_3 =>
 nextS P (V (Instr.fieldAt 66 x19_3 0)) (fun x20_4 =>
 nextS P (V (Instr.loadAt 60 x20_4)) (fun x21_5 =>
 callS P 40 #[x21_5, a1, x13_1] (fun x24_6 =>
 nextS P (V (Instr.extract x24_6 0)) (fun x25_7 =>
 nextS P (V (Instr.extract x24_6 1)) (fun x26_8 =>
 condS x26_8
 (callS P 25 #[a0, x25_7] (fun x30_9 =>
 S23_k1 ret pn a0 a1) pn)
 (S23_k1 ret pn a0 a1)) pn) pn) pn) pn) pn) pn) pn) pn
def mo23 : Nat → Mo := fun _ => .done
def lv23 : Nat → List Nat := fun _ => []
theorem ok23 : okC Tryz.f23.ntmps mo23 (Tryz.f23.body.getD .skip) = true := by kernel_rfl
theorem eq23 (a0 a1 a2 : Value) (ret : Value → C) (pn : Pn) : D P mo23 lv23 pn (Tryz.f23.body.getD .skip) (finQ P Tryz.f23.results ret) (env0 [a0, a1, a2]) = S23 a0 a1 a2 ret pn := by kernel_rfl
theorem c23 {a0 a1 a2 : Value} {R : Ending → World → Prop} {w : World} (h : S23 a0 a1 a2 (fun v w => R (.returned v) w) (fun c w => R (.panicked c) w) w) : Calls P 23 #[a0, a1, a2] w R :=
  callsD mixed mo23 lv23 Tryz.func23 rfl (Nat.le_of_ble_eq_true rfl) ok23 ((congrFun (eq23 a0 a1 a2 _ _) w).mpr h)
theorem en23 (args : Array Value) (w : World) : (callFunc 23 args).run P w = .ok (.enter 23 args) w := by kernel_rfl

/-! ### (*evenhand / cache.Cache).Drop -/
def S24 (a0 a1 : Value) (ret : Value → C) (pn : Pn) : C :=
 nextS P (V (Instr.box 3 a1)) (fun x3_1 =>
 DrawS fun S =>
 pureS P (nilN a0) fun x9_2 =>
 pureS P (V (Instr.fieldAt 107 x9_2 2)) fun x10_3 =>
 takeS S P (V (Instr.loadAt 105 x10_3)) fun x11_4 =>
 takeS S P (V (Instr.loadAt 3 x3_1)) fun x12_5 =>
 takeS S P (V (Instr.lookup 105 x11_4 x12_5 true)) fun x13_6 =>
 pureS P (V (Instr.extract x13_6 0)) fun x14_7 =>
 pureS P (V (Instr.extract x13_6 1)) fun x15_8 =>
 nextS P (V (Op.unary .not x15_8)) (fun x17_9 =>
 condS x17_9
 (ret (Value.bool false))
 (DrawS fun S =>
 pureS P (nilN a0) fun x19_10 =>
 pureS P (V (Instr.fieldAt 107 x19_10 2)) fun x20_11 =>
 takeS S P (V (Instr.loadAt 105 x20_11)) fun x21_12 =>
 takeS S P (V (Instr.loadAt 3 x3_1)) fun x22_13 =>
 nextS P (bltN .delete #[105, 3] 0 #[false, false] #[x21_12, x22_13]) (fun _ w => S w ∧ (nextS P (nilN a0) (fun x25_15 =>
 nextS P (V (Instr.fieldAt 107 x25_15 1)) (fun x26_16 =>
 nextS P (V (Instr.loadAt 71 x26_16)) (fun x27_17 =>
 nextS P (V (Instr.makeFunc (Fn.func 42) #[] #[x3_1])) (fun x28_18 =>
 callS P 41 #[x27_17, x28_18] (fun x29_19 =>
 nextS P (nilN a0) (fun x30_20 =>
 nextS P (V (Instr.fieldAt 107 x30_20 1)) (fun x31_21 =>
 nextS P (U (Instr.storeAt 71 x31_21 x29_19)) (fun _ =>
 ret (Value.bool true)) pn) pn) pn) pn) pn) pn) pn) pn) w) pn)) pn) pn
def mo24 : Nat → Mo
  | 1 => (Mo.take 0 (Mo.take 1 (Mo.take 2 (Mo.take 3 (Mo.take 4 (Mo.take 5 (Mo.take 6 (Mo.take 7 (Mo.take 8 (Mo.take 9 (Mo.take 10 Mo.done)))))))))))
  | 4 => (Mo.take 0 (Mo.take 1 (Mo.take 2 (Mo.take 3 (Mo.take 4 (Mo.eff 5 Mo.done))))))
  | _ => .done
def lv24 : Nat → List Nat := fun _ => []
theorem ok24 : okC Tryz.f24.ntmps mo24 (Tryz.f24.body.getD .skip) = true := by kernel_rfl
theorem eq24 (a0 a1 : Value) (ret : Value → C) (pn : Pn) : D P mo24 lv24 pn (Tryz.f24.body.getD .skip) (finQ P Tryz.f24.results ret) (env0 [a0, a1]) = S24 a0 a1 ret pn := by kernel_rfl
theorem c24 {a0 a1 : Value} {R : Ending → World → Prop} {w : World} (h : S24 a0 a1 (fun v w => R (.returned v) w) (fun c w => R (.panicked c) w) w) : Calls P 24 #[a0, a1] w R :=
  callsD mixed mo24 lv24 Tryz.func24 rfl (Nat.le_of_ble_eq_true rfl) ok24 ((congrFun (eq24 a0 a1 _ _) w).mpr h)
theorem en24 (args : Array Value) (w : World) : (callFunc 24 args).run P w = .ok (.enter 24 args) w := by kernel_rfl

/-! ### (*evenhand / tier.Manager).gone -/
def S25 (a0 a1 : Value) (ret : Value → C) (pn : Pn) : C :=
 nextS P (nilN a0) (fun x5_1 =>
 nextS P (V (Instr.fieldAt 66 x5_1 5)) (fun x6_2 =>
 nextS P (V (Instr.loadAt 63 x6_2)) (fun x7_3 =>
 nextS P (bltN .delete #[63, 3] 0 #[false, false] #[x7_3, a1]) (fun _ =>
 callS P 26 #[a0, (Value.int IntKind.i64 4), a1] (fun x11_5 =>
 ret (.tuple #[])) pn) pn) pn) pn) pn
def mo25 : Nat → Mo := fun _ => .done
def lv25 : Nat → List Nat := fun _ => []
theorem ok25 : okC Tryz.f25.ntmps mo25 (Tryz.f25.body.getD .skip) = true := by kernel_rfl
theorem eq25 (a0 a1 : Value) (ret : Value → C) (pn : Pn) : D P mo25 lv25 pn (Tryz.f25.body.getD .skip) (finQ P Tryz.f25.results ret) (env0 [a0, a1]) = S25 a0 a1 ret pn := by kernel_rfl
theorem c25 {a0 a1 : Value} {R : Ending → World → Prop} {w : World} (h : S25 a0 a1 (fun v w => R (.returned v) w) (fun c w => R (.panicked c) w) w) : Calls P 25 #[a0, a1] w R :=
  callsD mixed mo25 lv25 Tryz.func25 rfl (Nat.le_of_ble_eq_true rfl) ok25 ((congrFun (eq25 a0 a1 _ _) w).mpr h)
theorem en25 (args : Array Value) (w : World) : (callFunc 25 args).run P w = .ok (.enter 25 args) w := by kernel_rfl

/-! ### (*evenhand / tier.Manager).note -/
def S26 (a0 a1 a2 : Value) (ret : Value → C) (pn : Pn) : C :=
 nextS P (nilN a0) (fun x8_1 =>
 nextS P (V (Instr.fieldAt 66 x8_1 6)) (fun x9_2 =>
 nextS P (V (Instr.loadAt 45 x9_2)) (fun x10_3 =>
 nextS P (V (Instr.build 52 #[(0, a1), (1, a2)])) (fun x13_4 =>
 nextS P (V (Instr.buildSlice 45 1 #[(0, x13_4)])) (fun x14_5 =>
 nextS P (bltN .append #[45, 45] 45 #[false, false] #[x10_3, x14_5]) (fun x15_6 =>
 nextS P (nilN a0) (fun x16_7 =>
 nextS P (V (Instr.fieldAt 66 x16_7 6)) (fun x17_8 =>
 nextS P (U (Instr.storeAt 45 x17_8 x15_6)) (fun _ =>
 ret (.tuple #[])) pn) pn) pn) pn) pn) pn) pn) pn) pn
def mo26 : Nat → Mo := fun _ => .done
def lv26 : Nat → List Nat := fun _ => []
theorem ok26 : okC Tryz.f26.ntmps mo26 (Tryz.f26.body.getD .skip) = true := by kernel_rfl
theorem eq26 (a0 a1 a2 : Value) (ret : Value → C) (pn : Pn) : D P mo26 lv26 pn (Tryz.f26.body.getD .skip) (finQ P Tryz.f26.results ret) (env0 [a0, a1, a2]) = S26 a0 a1 a2 ret pn := by kernel_rfl
theorem c26 {a0 a1 a2 : Value} {R : Ending → World → Prop} {w : World} (h : S26 a0 a1 a2 (fun v w => R (.returned v) w) (fun c w => R (.panicked c) w) w) : Calls P 26 #[a0, a1, a2] w R :=
  callsD mixed mo26 lv26 Tryz.func26 rfl (Nat.le_of_ble_eq_true rfl) ok26 ((congrFun (eq26 a0 a1 a2 _ _) w).mpr h)
theorem en26 (args : Array Value) (w : World) : (callFunc 26 args).run P w = .ok (.enter 26 args) w := by kernel_rfl

/-! ### (*evenhand / evenhandref19.Manager).find -/
def S27_l1 (nx1 : List Value → C) (ret : Value → C) (pn : Pn) (e : Env) : C :=
 nextS P (nilN (e 0)) (fun x8_1 =>
 nextS P (V (Instr.fieldAt 50 x8_1 4)) (fun x9_2 =>
 nextS P (V (Instr.loadAt 47 x9_2)) (fun x10_3 =>
 nextS P (bltN .len #[47] 3 #[false] #[x10_3]) (fun x11_4 =>
 nextS P (binN .lss 3 (Operand.tmp 6) (Operand.tmp 11) (e 5) x11_4) (fun x12_5 =>
 condS x12_5
 (nextS P (nilN (e 0)) (fun x16_6 =>
 nextS P (V (Instr.fieldAt 50 x16_6 4)) (fun x17_7 =>
 nextS P (V (Instr.loadAt 47 x17_7)) (fun x18_8 =>
 nextS P (V (Instr.indexAt 47 x18_8 (e 5))) (fun x20_9 =>
 nextS P (V (Instr.fieldAt 92 x20_9 0)) (fun x21_10 =>
 nextS P (V (Instr.loadAt 3 x21_10)) (fun x22_11 =>
 nextS P (binN .eql 3 (Operand.tmp 22) (Operand.tmp 23) x22_11 (e 1)) (fun x24_12 =>
 condS x24_12
 (ret (e 5))
 (nextS P (binN .add 3 (Operand.tmp 13) (Operand.const (Value.int IntKind.i64 1)) (e 5) (Value.int IntKind.i64 1)) (fun x14_13 =>
 nx1 [(e 0), (e 1), x14_13]) pn)) pn) pn) pn) pn) pn) pn) pn)
 (ret (Value.int IntKind.i64 (-1)))) pn) pn) pn) pn) pn
def S27 (a0 a1 : Value) (ret : Value → C) (pn : Pn) : C :=
 LoopS [a0, a1, (Value.int IntKind.i64 0)] [0, 1, 5] fun nx1 e => S27_l1 nx1 ret pn e
def mo27 : Nat → Mo := fun _ => .done
def lv27 : Nat → List Nat
  | 2 => [0, 1, 5]
  | _ => []
theorem ok27 : okC Tryz.f27.ntmps mo27 (Tryz.f27.body.getD .skip) = true := by kernel_rfl
theorem eq27 (a0 a1 : Value) (ret : Value → C) (pn : Pn) : D P mo27 lv27 pn (Tryz.f27.body.getD .skip) (finQ P Tryz.f27.results ret) (env0 [a0, a1]) = S27 a0 a1 ret pn := by kernel_rfl
theorem c27 {a0 a1 : Value} {R : Ending → World → Prop} {w : World} (h : S27 a0 a1 (fun v w => R (.returned v) w) (fun c w => R (.panicked c) w) w) : Calls P 27 #[a0, a1] w R :=
  callsD mixed mo27 lv27 Tryz.func27 rfl (Nat.le_of_ble_eq_true rfl) ok27 ((congrFun (eq27 a0 a1 _ _) w).mpr h)
theorem en27 (args : Array Value) (w : World) : (callFunc 27 args).run P w = .ok (.enter 27 args) w := by kernel_rfl

/-! ### (*evenhand / evenhandref19.Manager).compile -/
def S28_k2 (nx1 : List Value → C) (ret : Value → C) (pn : Pn) (y0 y1 y2 y3 y8 y9 y10 : Value) : C :=
 nextS P (binN .sub 3 (Operand.tmp 26) (Operand.const (Value.int IntKind.i64 1)) y10 (Value.int IntKind.i64 1)) (fun x27_26 =>
 nx1 [y0, y1, y2, y3, y8, y9, x27_26]) pn
def S28_k4 (ret : Value → C) (pn : Pn) (y0 y9 : Value) : C :=
 DrawS fun S =>
 pureS P (nilN y0) fun x82_55 =>
 pureS P (V (Instr.fieldAt 50 x82_55 4)) fun x83_56 =>
 takeS S P (V (Instr.loadAt 92 y9)) fun x85_57 =>
 fun w => (nextS P (V (Instr.loadAt 47 x83_56)) (fun x84_58 w => S w ∧ (nextS P (V (Instr.buildSlice 47 1 #[(0, x85_57)])) (fun x86_59 w => S w ∧ (nextS P (bltN .append #[47, 47] 47 #[false, false] #[x84_58, x86_59]) (fun x87_60 w => S w ∧ (pureS P (nilN y0) fun x88_61 =>
 pureS P (V (Instr.fieldAt 50 x88_61 4)) fun x89_62 =>
 nextS P (U (Instr.storeAt 47 x89_62 x87_60)) (fun _ w => S w ∧ (ret (.tuple #[])) w) pn) w) pn) w) pn) w) pn) w ∧ (nextS P (V (Instr.buildSlice 47 1 #[(0, x85_57)])) (fun x86_64 w => S w ∧ (nextS P (V (Instr.loadAt 47 x83_56)) (fun x84_65 w => S w ∧ (nextS P (bltN .append #[47, 47] 47 #[false, false] #[x84_65, x86_64]) (fun x87_66 w => S w ∧ (pureS P (nilN y0) fun x88_67 =>
 pureS P (V (Instr.fieldAt 50 x88_67 4)) fun x89_68 =>
 nextS P (U (Instr.storeAt 47 x89_68 x87_66)) (fun _ w => S w ∧ (ret (.tuple #[])) w) pn) w) pn) w) pn) w) pn) w
def S28_k3 (ret : Value → C) (pn : Pn) (y0 y1 y9 : Value) : C :=
 nextS P (nilN y0) (fun x59_37 =>
 nextS P (V (Instr.fieldAt 50 x59_37 5)) (fun x60_38 =>
 nextS P (V (Instr.loadAt 48 x60_38)) (fun x61_39 =>
 nextS P (V (Instr.build 53 #[(0, (Value.int IntKind.i64 1)), (1, y1)])) (fun x63_40 =>
 nextS P (V (Instr.buildSlice 48 1 #[(0, x63_40)])) (fun x64_41 =>
 nextS P (bltN .append #[48, 48] 48 #[false, false] #[x61_39, x64_41]) (fun x65_42 =>
 nextS P (nilN y0) (fun x66_43 =>
 nextS P (V (Instr.fieldAt 50 x66_43 5)) (fun x67_44 =>
 nextS P (U (Instr.storeAt 48 x67_44 x65_42)) (fun _ =>
 DrawS fun S =>
 pureS P (nilN y0) fun x69_46 =>
 pureS P (V (Instr.fieldAt 50 x69_46 4)) fun x70_47 =>
 takeS S P (V (Instr.loadAt 47 x70_47)) fun x71_48 =>
 takeS S P (bltN .len #[47] 3 #[false] #[x71_48]) fun x72_49 =>
 pureS P (nilN y0) fun x74_50 =>
 pureS P (V (Instr.fieldAt 50 x74_50 2)) fun x75_51 =>
 takeS S P (V (Instr.loadAt 3 x75_51)) fun x76_52 =>
 pureS P (binN .geq 3 (Operand.tmp 72) (Operand.tmp 76) x72_49 x76_52) fun x77_53 =>
 condS x77_53
 (callS P 29 #[y0, (Value.int IntKind.i64 0)] (fun x79_54 =>
 S28_k4 ret pn y0 y9) pn)
 (S28_k4 ret pn y0 y9)) pn) pn) pn) pn) pn) pn) pn) pn) pn
def S28_l1 (nx1 : List Value → C) (ret : Value → C) (pn : Pn) (e : Env) : C :=
 nextS P (binN .geq 3 (Operand.tmp 24) (Operand.const (Value.int IntKind.i64 0)) (e 10) (Value.int IntKind.i64 0)) (fun x25_14 =>
 condS x25_14
 (callS P 43 #[(e 0), (e 1), (e 10)] (fun x31_15 =>
 nextS P (binN .eql 2 (Operand.tmp 32) (Operand.const (Value.int IntKind.i64 2)) (e 2) (Value.int IntKind.i64 2)) (fun x33_16 =>
 grdS x33_16 true (fun K => K x31_15) fun x35_17 =>
 nextS P (pickN x33_16 x35_17 (Value.bool false)) (fun x36_18 =>
 condS x36_18
 (nextS P (V (Instr.fieldAt 92 (e 9) 2)) (fun x37_19 =>
 nextS P (U (Instr.storeAt 4 x37_19 (Value.bool true))) (fun _ =>
 nextS P (V (Instr.fieldAt 92 (e 9) 3)) (fun x39_21 =>
 nextS P (U (Instr.storeAt 3 x39_21 (e 10))) (fun _ =>
 callS P 30 #[(e 3), (e 10)] (fun x42_23 =>
 nextS P (V (Instr.fieldAt 92 (e 9) 4)) (fun x43_24 =>
 nextS P (U (Instr.storeAt 2 x43_24 x42_23)) (fun _ =>
 S28_k2 nx1 ret pn (e 0) (e 1) (e 2) (e 3) (e 8) (e 9) (e 10)) pn) pn) pn) pn) pn) pn) pn)
 (S28_k2 nx1 ret pn (e 0) (e 1) (e 2) (e 3) (e 8) (e 9) (e 10))) pn) pn) pn)
 (nextS P (V (Instr.fieldAt 92 (e 9) 2)) (fun x44_27 =>
 nextS P (V (Instr.loadAt 4 x44_27)) (fun x45_28 =>
 condS x45_28
 (nextS P (V (Instr.loadAt 74 (e 8))) (fun x46_29 =>
 nextS P (V (Instr.fieldAt 92 (e 9) 3)) (fun x47_30 =>
 nextS P (V (Instr.loadAt 3 x47_30)) (fun x48_31 =>
 nextS P (V (Instr.fieldAt 92 (e 9) 4)) (fun x49_32 =>
 nextS P (V (Instr.loadAt 2 x49_32)) (fun x50_33 =>
 callS P 44 #[x46_29, x48_31, x50_33] (fun x51_34 =>
 nextS P (V (Instr.fieldAt 92 (e 9) 1)) (fun x52_35 =>
 nextS P (U (Instr.storeAt 41 x52_35 x51_34)) (fun _ =>
 S28_k3 ret pn (e 0) (e 1) (e 9)) pn) pn) pn) pn) pn) pn) pn) pn)
 (nextS P (V (Instr.fieldAt 74 (e 8) 4)) (fun x53_70 =>
 nextS P (V (Instr.loadAt 41 x53_70)) (fun x54_71 =>
 callS P 45 #[x54_71] (fun x55_72 =>
 nextS P (V (Instr.fieldAt 92 (e 9) 1)) (fun x56_73 =>
 nextS P (U (Instr.storeAt 41 x56_73 x55_72)) (fun _ =>
 S28_k3 ret pn (e 0) (e 1) (e 9)) pn) pn) pn) pn) pn)) pn) pn)) pn
def S28 (a0 a1 a2 a3 : Value) (ret : Value → C) (pn : Pn) : C :=
 nextS P (nilN a0) (fun x13_1 =>
 nextS P (V (Instr.fieldAt 50 x13_1 0)) (fun x14_2 =>
 nextS P (V (Instr.loadAt 34 x14_2)) (fun x15_3 =>
 nextS P (V (Instr.indexAt 34 x15_3 a1)) (fun x17_4 =>
 nextS P (V (Instr.loadAt 74 x17_4)) (fun x18_5 =>
 nextS P (V (Instr.alloc 74 true (.tuple #[]))) (fun x8_6 =>
 nextS P (U (Instr.storeAt 74 x8_6 x18_5)) (fun _ =>
 nextS P (V (Instr.build 92 #[(0, a1)])) (fun x20_8 =>
 nextS P (V (Instr.alloc 92 true (.tuple #[]))) (fun x9_9 =>
 nextS P (U (Instr.storeAt 92 x9_9 x20_8)) (fun _ =>
 nextS P (V (Instr.fieldAt 74 x8_6 1)) (fun x21_11 =>
 nextS P (V (Instr.loadAt 3 x21_11)) (fun x22_12 =>
 nextS P (binN .sub 3 (Operand.tmp 22) (Operand.const (Value.int IntKind.i64 1)) x22_12 (Value.int IntKind.i64 1)) (fun x23_13 =>
 LoopS [a0, a1, a2, a3, x8_6, x9_9, x23_13] [0, 1, 2, 3, 8, 9, 10] fun nx1 e => S28_l1 nx1 ret pn e) pn) pn) pn) pn) pn) pn) pn) pn) pn) pn) pn) pn) pn
def mo28 : Nat → Mo
  | 14 => (Mo.take 0 (Mo.take 1 (Mo.take 2 (Mo.take 3 (Mo.take 4 (Mo.take 5 (Mo.take 6 (Mo.take 7 (Mo.take 8 (Mo.take 9 Mo.done))))))))))
  | 16 => (Mo.take 0 (Mo.take 1 (Mo.take 2 (Mo.take 3 (Mo.take 5 (Mo.two 4 (Mo.eff 6 (Mo.eff 7 (Mo.take 8 (Mo.take 9 (Mo.eff 10 Mo.done))))) 6 (Mo.eff 4 (Mo.eff 7 (Mo.take 8 (Mo.take 9 (Mo.eff 10 Mo.done)))))))))))
  | _ => .done
def lv28 : Nat → List Nat
  | 3 => [0, 1, 2, 3, 8, 9, 10]
  | _ => []
theorem ok28 : okC Tryz.f28.ntmps mo28 (Tryz.f28.body.getD .skip) = true := by kernel_rfl
theorem eq28 (a0 a1 a2 a3 : Value) (ret : Value → C) (pn : Pn) : D P mo28 lv28 pn (Tryz.f28.body.getD .skip) (finQ P Tryz.f28.results ret) (env0 [a0, a1, a2, a3]) = S28 a0 a1 a2 a3 ret pn := by kernel_rfl
theorem c28 {a0 a1 a2 a3 : Value} {R : Ending → World → Prop} {w : World} (h : S28 a0 a1 a2 a3 (fun v w => R (.returned v) w) (fun c w => R (.panicked c) w) w) : Calls P 28 #[a0, a1, a2, a3] w R :=
  callsD mixed mo28 lv28 Tryz.func28 rfl (Nat.le_of_ble_eq_true rfl) ok28 ((congrFun (eq28 a0 a1 a2 a3 _ _) w).mpr h)
theorem en28 (args : Array Value) (w : World) : (callFunc 28 args).run P w = .ok (.enter 28 args) w := by kernel_rfl

/-! ### (*evenhand / evenhandref19.Manager).evict -/
def S29 (a0 a1 : Value) (ret : Value → C) (pn : Pn) : C :=
 DrawS fun S =>
 pureS P (nilN a0) fun x6_1 =>
 pureS P (V (Instr.fieldAt 50 x6_1 5)) fun x7_2 =>
 pureS P (nilN a0) fun x10_3 =>
 pureS P (V (Instr.fieldAt 50 x10_3 4)) fun x11_4 =>
 takeS S P (V (Instr.loadAt 47 x11_4)) fun x12_5 =>
 pureS P (V (Instr.indexAt 47 x12_5 a1)) fun x14_6 =>
 pureS P (V (Instr.fieldAt 92 x14_6 0)) fun x15_7 =>
 takeS S P (V (Instr.loadAt 3 x15_7)) fun x16_8 =>
 pureS P (V (Instr.build 53 #[(0, (Value.int IntKind.i64 4)), (1, x16_8)])) fun x17_9 =>
 fun w => (nextS P (V (Instr.loadAt 48 x7_2)) (fun x8_10 w => S w ∧ (nextS P (V (Instr.buildSlice 48 1 #[(0, x17_9)])) (fun x18_11 w => S w ∧ (nextS P (bltN .append #[48, 48] 48 #[false, false] #[x8_10, x18_11]) (fun x19_12 w => S w ∧ (pureS P (nilN a0) fun x20_13 =>
 pureS P (V (Instr.fieldAt 50 x20_13 5)) fun x21_14 =>
 nextS P (U (Instr.storeAt 48 x21_14 x19_12)) (fun _ w => S w ∧ (DrawS fun S =>
 pureS P (nilN a0) fun x25_16 =>
 pureS P (V (Instr.fieldAt 50 x25_16 4)) fun x26_17 =>
 pureS P (nilN a0) fun x32_18 =>
 pureS P (V (Instr.fieldAt 50 x32_18 4)) fun x33_19 =>
 pureS P (binN .add 3 (Operand.tmp 35) (Operand.const (Value.int IntKind.i64 1)) a1 (Value.int IntKind.i64 1)) fun x36_20 =>
 fun w => (nextS P (V (Instr.buildSlice 47 0 #[])) (fun x23_21 w => S w ∧ (fun w => (nextS P (V (Instr.loadAt 47 x26_17)) (fun x27_22 w => S w ∧ (pureS P (V (Instr.sliceAt 47 x27_22 none (some a1) none)) fun x29_23 =>
 fun w => (nextS P (bltN .append #[47, 47] 47 #[false, false] #[x23_21, x29_23]) (fun x30_24 w => S w ∧ (nextS P (V (Instr.loadAt 47 x33_19)) (fun x34_25 w => S w ∧ (pureS P (V (Instr.sliceAt 47 x34_25 (some x36_20) none none)) fun x37_26 =>
 nextS P (bltN .append #[47, 47] 47 #[false, false] #[x30_24, x37_26]) (fun x38_27 w => S w ∧ (pureS P (nilN a0) fun x39_28 =>
 pureS P (V (Instr.fieldAt 50 x39_28 4)) fun x40_29 =>
 nextS P (U (Instr.storeAt 47 x40_29 x38_27)) (fun _ w => S w ∧ (ret (.tuple #[])) w) pn) w) pn) w) pn) w) pn) w ∧ (nextS P (V (Instr.loadAt 47 x33_19)) (fun x34_31 w => S w ∧ (pureS P (V (Instr.sliceAt 47 x34_31 (some x36_20) none none)) fun x37_32 =>
 nextS P (bltN .append #[47, 47] 47 #[false, false] #[x23_21, x29_23]) (fun x30_33 w => S w ∧ (nextS P (bltN .append #[47, 47] 47 #[false, false] #[x30_33, x37_32]) (fun x38_34 w => S w ∧ (pureS P (nilN a0) fun x39_35 =>
 pureS P (V (Instr.fieldAt 50 x39_35 4)) fun x40_36 =>
 nextS P (U (Instr.storeAt 47 x40_36 x38_34)) (fun _ w => S w ∧ (ret (.tuple #[])) w) pn) w) pn) w) pn) w) pn) w) w) pn) w ∧ (nextS P (V (Instr.loadAt 47 x33_19)) (fun x34_38 w => S w ∧ (pureS P (V (Instr.sliceAt 47 x34_38 (some x36_20) none none)) fun x37_39 =>
 nextS P (V (Instr.loadAt 47 x26_17)) (fun x27_40 w => S w ∧ (pureS P (V (Instr.sliceAt 47 x27_40 none (some a1) none)) fun x29_41 =>
 nextS P (bltN .append #[47, 47] 47 #[false, false] #[x23_21, x29_41]) (fun x30_42 w => S w ∧ (nextS P (bltN .append #[47, 47] 47 #[false, false] #[x30_42, x37_39]) (fun x38_43 w => S w ∧ (pureS P (nilN a0) fun x39_44 =>
 pureS P (V (Instr.fieldAt 50 x39_44 4)) fun x40_45 =>
 nextS P (U (Instr.storeAt 47 x40_45 x38_43)) (fun _ w => S w ∧ (ret (.tuple #[])) w) pn) w) pn) w) pn) w) pn) w) pn) w) w) pn) w ∧ (nextS P (V (Instr.loadAt 47 x26_17)) (fun x27_47 w => S w ∧ (pureS P (V (Instr.sliceAt 47 x27_47 none (some a1) none)) fun x29_48 =>
 fun w => (nextS P (V (Instr.buildSlice 47 0 #[])) (fun x23_49 w => S w ∧ (fun w => (nextS P (bltN .append #[47, 47] 47 #[false, false] #[x23_49, x29_48]) (fun x30_50 w => S w ∧ (nextS P (V (Instr.loadAt 47 x33_19)) (fun x34_51 w => S w ∧ (pureS P (V (Instr.sliceAt 47 x34_51 (some x36_20) none none)) fun x37_52 =>
 nextS P (bltN .append #[47, 47] 47 #[false, false] #[x30_50, x37_52]) (fun x38_53 w => S w ∧ (pureS P (nilN a0) fun x39_54 =>
 pureS P (V (Instr.fieldAt 50 x39_54 4)) fun x40_55 =>
 nextS P (U (Instr.storeAt 47 x40_55 x38_53)) (fun _ w => S w ∧ (ret (.tuple #[])) w) pn) w) pn) w) pn) w) pn) w ∧ (nextS P (V (Instr.loadAt 47 x33_19)) (fun x34_57 w => S w ∧ (pureS P (V (Instr.sliceAt 47 x34_57 (some x36_20) none none)) fun x37_58 =>
 nextS P (bltN .append #[47, 47] 47 #[false, false] #[x23_49, x29_48]) (fun x30_59 w => S w ∧ (nextS P (bltN .append #[47, 47] 47 #[false, false] #[x30_59, x37_58]) (fun x38_60 w => S w ∧ (pureS P (nilN a0) fun x39_61 =>
 pureS P (V (Instr.fieldAt 50 x39_61 4)) fun x40_62 =>
 nextS P (U (Instr.storeAt 47 x40_62 x38_60)) (fun _ w => S w ∧ (ret (.tuple #[])) w) pn) w) pn) w) pn) w) pn) w) w) pn) w ∧ (nextS P (V (Instr.loadAt 47 x33_19)) (fun x34_64 w => S w ∧ (pureS P (V (Instr.sliceAt 47 x34_64 (some x36_20) none none)) fun x37_65 =>
 nextS P (V (Instr.buildSlice 47 0 #[])) (fun x23_66 w => S w ∧ (nextS P (bltN .append #[47, 47] 47 #[false, false] #[x23_66, x29_48]) (fun x30_67 w => S w ∧ (nextS P (bltN .append #[47, 47] 47 #[false, false] #[x30_67, x37_65]) (fun x38_68 w => S w ∧ (pureS P (nilN a0) fun x39_69 =>
 pureS P (V (Instr.fieldAt 50 x39_69 4)) fun x40_70 =>
 nextS P (U (Instr.storeAt 47 x40_70 x38_68)) (fun _ w => S w ∧ (ret (.tuple #[])) w) pn) w) pn) w) pn) w) pn) w) pn) w) w) pn) w ∧ (nextS P (V (Instr.loadAt 47 x33_19)) (fun x34_72 w => S w ∧ (pureS P (V (Instr.sliceAt 47 x34_72 (some x36_20) none none)) fun x37_73 =>
 fun w => (nextS P (V (Instr.buildSlice 47 0 #[])) (fun x23_74 w => S w ∧ (nextS P (V (Instr.loadAt 47 x26_17)) (fun x27_75 w => S w ∧ (pureS P (V (Instr.sliceAt 47 x27_75 none (some a1) none)) fun x29_76 =>
 nextS P (bltN .append #[47, 47] 47 #[false, false] #[x23_74, x29_76]) (fun x30_77 w => S w ∧ (nextS P (bltN .append #[47, 47] 47 #[false, false] #[x30_77, x37_73]) (fun x38_78 w => S w ∧ (pureS P (nilN a0) fun x39_79 =>
 pureS P (V (Instr.fieldAt 50 x39_79 4)) fun x40_80 =>
 nextS P (U (Instr.storeAt 47 x40_80 x38_78)) (fun _ w => S w ∧ (ret (.tuple #[])) w) pn) w) pn) w) pn) w) pn) w) pn) w ∧ (nextS P (V (Instr.loadAt 47 x26_17)) (fun x27_82 w => S w ∧ (pureS P (V (Instr.sliceAt 47 x27_82 none (some a1) none)) fun x29_83 =>
 nextS P (V (Instr.buildSlice 47 0 #[])) (fun x23_84 w => S w ∧ (nextS P (bltN .append #[47, 47] 47 #[false, false] #[x23_84, x29_83]) (fun x30_85 w => S w ∧ (nextS P (bltN .append #[47, 47] 47 #[false, false] #[x30_85, x37_73]) (fun x38_86 w => S w ∧ (pureS P (nilN a0) fun x39_87 =>
 pureS P (V (Instr.fieldAt 50 x39_87 4)) fun x40_88 =>
 nextS P (U (Instr.storeAt 47 x40_88 x38_86)) (fun _ w => S w ∧ (ret (.tuple #[])) w) pn) w) pn) w) pn) w) pn) w) pn) w) w) pn) w) w) pn) w) pn) w) pn) w) pn) w ∧ (nextS P (V (Instr.buildSlice 48 1 #[(0, x17_9)])) (fun x18_90 w => S w ∧ (nextS P (V (Instr.loadAt 48 x7_2)) (fun x8_91 w => S w ∧ (nextS P (bltN .append #[48, 48] 48 #[false, false] #[x8_91, x18_90]) (fun x19_92 w => S w ∧ (pureS P (nilN a0) fun x20_93 =>
 pureS P (V (Instr.fieldAt 50 x20_93 5)) fun x21_94 =>
 nextS P (U (Instr.storeAt 48 x21_94 x19_92)) (fun _ w => S w ∧ (DrawS fun S =>
 pureS P (nilN a0) fun x25_96 =>
 pureS P (V (Instr.fieldAt 50 x25_96 4)) fun x26_97 =>
 pureS P (nilN a0) fun x32_98 =>
 pureS P (V (Instr.fieldAt 50 x32_98 4)) fun x33_99 =>
 pureS P (binN .add 3 (Operand.tmp 35) (Operand.const (Value.int IntKind.i64 1)) a1 (Value.int IntKind.i64 1)) fun x36_100 =>
 fun w => (nextS P (V (Instr.buildSlice 47 0 #[])) (fun x23_101 w => S w ∧ (fun w => (nextS P (V (Instr.loadAt 47 x26_97)) (fun x27_102 w => S w ∧ (pureS P (V (Instr.sliceAt 47 x27_102 none (some a1) none)) fun x29_103 =>
 fun w => (nextS P (bltN .append #[47, 47] 47 #[false, false] #[x23_101, x29_103]) (fun x30_104 w => S w ∧ (nextS P (V (Instr.loadAt 47 x33_99)) (fun x34_105 w => S w ∧ (pureS P (V (Instr.sliceAt 47 x34_105 (some x36_100) none none)) fun x37_106 =>
 nextS P (bltN .append #[47, 47] 47 #[false, false] #[x30_104, x37_106]) (fun x38_107 w => S w ∧ (pureS P (nilN a0) fun x39_108 =>
 pureS P (V (Instr.fieldAt 50 x39_108 4)) fun x40_109 =>
 nextS P (U (Instr.storeAt 47 x40_109 x38_107)) (fun _ w => S w ∧ (ret (.tuple #[])) w) pn) w) pn) w) pn) w) pn) w ∧ (nextS P (V (Instr.loadAt 47 x33_99)) (fun x34_111 w => S w ∧ (pureS P (V (Instr.sliceAt 47 x34_111 (some x36_100) none none)) fun x37_112 =>
 nextS P (bltN .append #[47, 47] 47 #[false, false] #[x23_101, x29_103]) (fun x30_113 w => S w ∧ (nextS P (bltN .append #[47, 47] 47 #[false, false] #[x30_113, x37_112]) (fun x38_114 w => S w ∧ (pureS P (nilN a0) fun x39_115 =>
 pureS P (V (Instr.fieldAt 50 x39_115 4)) fun x40_116 =>
 nextS P (U (Instr.storeAt 47 x40_116 x38_114)) (fun _ w => S w ∧ (ret (.tuple #[])) w) pn) w) pn) w) pn) w) pn) w) w) pn) w ∧ (nextS P (V (Instr.loadAt 47 x33_99)) (fun x34_118 w => S w ∧ (pureS P (V (Instr.sliceAt 47 x34_118 (some x36_100) none none)) fun x37_119 =>
 nextS P (V (Instr.loadAt 47 x26_97)) (fun x27_120 w => S w ∧ (pureS P (V (Instr.sliceAt 47 x27_120 none (some a1) none)) fun x29_121 =>
 nextS P (bltN .append #[47, 47] 47 #[false, false] #[x23_101, x29_121]) (fun x30_122 w => S w ∧ (nextS P (bltN .append #[47, 47] 47 #[false, false] #[x30_122, x37_119]) (fun x38_123 w => S w ∧ (pureS P (nilN a0) fun x39_124 =>
 pureS P (V (Instr.fieldAt 50 x39_124 4)) fun x40_125 =>
 nextS P (U (Instr.storeAt 47 x40_125 x38_123)) (fun _ w => S w ∧ (ret (.tuple #[])) w) pn) w) pn) w) pn) w) pn) w) pn) w) w) pn) w ∧ (nextS P (V (Instr.loadAt 47 x26_97)) (fun x27_127 w => S w ∧ (pureS P (V (Instr.sliceAt 47 x27_127 none (some a1) none)) fun x29_128 =>
 fun w => (nextS P (V (Instr.buildSlice 47 0 #[])) (fun x23_129 w => S w ∧ (fun w => (nextS P (bltN .append #[47, 47] 47 #[false, false] #[x23_129, x29_128]) (fun x30_130 w => S w ∧ (nextS P (V (Instr.loadAt 47 x33_99)) (fun x34_131 w => S w ∧ (pureS P (V (Instr.sliceAt 47 x34_131 (some x36_100) none none)) fun x37_132 =>
 nextS P (bltN .append #[47, 47] 47 #[false, false] #[x30_130, x37_132]) (fun x38_133 w => S w ∧ (pureS P (nilN a0) fun x39_134 =>
 pureS P (V (Instr.fieldAt 50 x39_134 4)) fun x40_135 =>
 nextS P (U (Instr.storeAt 47 x40_135 x38_133)) (fun _ w => S w ∧ (ret (.tuple #[])) w) pn) w) pn) w) pn) w) pn) w ∧ (nextS P (V (Instr.loadAt 47 x33_99)) (fun x34_137 w => S w ∧ (pureS P (V (Instr.sliceAt 47 x34_137 (some x36_100) none none)) fun x37_138 =>
 nextS P (bltN .append #[47, 47] 47 #[false, false] #[x23_129, x29_128]) (fun x30_139 w => S w ∧ (nextS P (bltN .append #[47, 47] 47 #[false, false] #[x30_139, x37_138]) (fun x38_140 w => S w ∧ (pureS P (nilN a0) fun x39_141 =>
 pureS P (V (Instr.fieldAt 50 x39_141 4)) fun x40_142 =>
 nextS P (U (Instr.storeAt 47 x40_142 x38_140)) (fun _ w => S w ∧ (ret (.tuple #[])) w) pn) w) pn) w) pn) w) pn) w) w) pn) w ∧ (nextS P (V (Instr.loadAt 47 x33_99)) (fun x34_144 w => S w ∧ (pureS P (V (Instr.sliceAt 47 x34_144 (some x36_100) none none)) fun x37_145 =>
 nextS P (V (Instr.buildSlice 47 0 #[])) (fun x23_146 w => S w ∧ (nextS P (bltN .append #[47, 47] 47 #[false, false] #[x23_146, x29_128]) (fun x30_147 w => S w ∧ (nextS P (bltN .append #[47, 47] 47 #[false, false] #[x30_147, x37_145]) (fun x38_148 w => S w ∧ (pureS P (nilN a0) fun x39_149 =>
 pureS P (V (Instr.fieldAt 50 x39_149 4)) fun x40_150 =>
 nextS P (U (Instr.storeAt 47 x40_150 x38_148)) (fun _ w => S w ∧ (ret (.tuple #[])) w) pn) w) pn) w) pn) w) pn) w) pn) w) w) pn) w ∧ (nextS P (V (Instr.loadAt 47 x33_99)) (fun x34_152 w => S w ∧ (pureS P (V (Instr.sliceAt 47 x34_152 (some x36_100) none none)) fun x37_153 =>
 fun w => (nextS P (V (Instr.buildSlice 47 0 #[])) (fun x23_154 w => S w ∧ (nextS P (V (Instr.loadAt 47 x26_97)) (fun x27_155 w => S w ∧ (pureS P (V (Instr.sliceAt 47 x27_155 none (some a1) none)) fun x29_156 =>
 nextS P (bltN .append #[47, 47] 47 #[false, false] #[x23_154, x29_156]) (fun x30_157 w => S w ∧ (nextS P (bltN .append #[47, 47] 47 #[false, false] #[x30_157, x37_153]) (fun x38_158 w => S w ∧ (pureS P (nilN a0) fun x39_159 =>
 pureS P (V (Instr.fieldAt 50 x39_159 4)) fun x40_160 =>
 nextS P (U (Instr.storeAt 47 x40_160 x38_158)) (fun _ w => S w ∧ (ret (.tuple #[])) w) pn) w) pn) w) pn) w) pn) w) pn) w ∧ (nextS P (V (Instr.loadAt 47 x26_97)) (fun x27_162 w => S w ∧ (pureS P (V (Instr.sliceAt 47 x27_162 none (some a1) none)) fun x29_163 =>
 nextS P (V (Instr.buildSlice 47 0 #[])) (fun x23_164 w => S w ∧ (nextS P (bltN .append #[47, 47] 47 #[false, false] #[x23_164, x29_163]) (fun x30_165 w => S w ∧ (nextS P (bltN .append #[47, 47] 47 #[false, false] #[x30_165, x37_153]) (fun x38_166 w => S w ∧ (pureS P (nilN a0) fun x39_167 =>
 pureS P (V (Instr.fieldAt 50 x39_167 4)) fun x40_168 =>
 nextS P (U (Instr.storeAt 47 x40_168 x38_166)) (fun _ w => S w ∧ (ret (.tuple #[])) w) pn) w) pn) w) pn) w) pn) w) pn) w) w) pn) w) w) pn) w) pn) w) pn) w) pn) w
def mo29 : Nat → Mo
  | 0 => (Mo.take 0 (Mo.take 1 (Mo.take 2 (Mo.take 3 (Mo.take 5 (Mo.take 6 (Mo.take 7 (Mo.take 8 (Mo.take 9 (Mo.take 10 (Mo.take 11 (Mo.take 12 (Mo.take 13 (Mo.two 4 (Mo.eff 14 (Mo.eff 15 (Mo.take 16 (Mo.take 17 (Mo.eff 18 Mo.done))))) 14 (Mo.eff 4 (Mo.eff 15 (Mo.take 16 (Mo.take 17 (Mo.eff 18 Mo.done)))))))))))))))))))
  | 1 => (Mo.take 0 (Mo.take 2 (Mo.take 3 (Mo.take 4 (Mo.take 6 (Mo.take 9 (Mo.take 10 (Mo.take 11 (Mo.take 13 (Mo.take 14 (Mo.three 1 (Mo.two 5 (Mo.take 7 (Mo.two 8 (Mo.eff 12 (Mo.take 15 (Mo.eff 16 (Mo.take 17 (Mo.take 18 (Mo.eff 19 Mo.done)))))) 12 (Mo.take 15 (Mo.eff 8 (Mo.eff 16 (Mo.take 17 (Mo.take 18 (Mo.eff 19 Mo.done)))))))) 12 (Mo.take 15 (Mo.eff 5 (Mo.take 7 (Mo.eff 8 (Mo.eff 16 (Mo.take 17 (Mo.take 18 (Mo.eff 19 Mo.done))))))))) 5 (Mo.take 7 (Mo.two 1 (Mo.two 8 (Mo.eff 12 (Mo.take 15 (Mo.eff 16 (Mo.take 17 (Mo.take 18 (Mo.eff 19 Mo.done)))))) 12 (Mo.take 15 (Mo.eff 8 (Mo.eff 16 (Mo.take 17 (Mo.take 18 (Mo.eff 19 Mo.done))))))) 12 (Mo.take 15 (Mo.eff 1 (Mo.eff 8 (Mo.eff 16 (Mo.take 17 (Mo.take 18 (Mo.eff 19 Mo.done))))))))) 12 (Mo.take 15 (Mo.two 1 (Mo.eff 5 (Mo.take 7 (Mo.eff 8 (Mo.eff 16 (Mo.take 17 (Mo.take 18 (Mo.eff 19 Mo.done))))))) 5 (Mo.take 7 (Mo.eff 1 (Mo.eff 8 (Mo.eff 16 (Mo.take 17 (Mo.take 18 (Mo.eff 19 Mo.done))))))))))))))))))))
  | _ => .done
def lv29 : Nat → List Nat := fun _ => []
theorem ok29 : okC Tryz.f29.ntmps mo29 (Tryz.f29.body.getD .skip) = true := by kernel_rfl
theorem eq29 (a0 a1 : Value) (ret : Value → C) (pn : Pn) : D P mo29 lv29 pn (Tryz.f29.body.getD .skip) (finQ P Tryz.f29.results ret) (env0 [a0, a1]) = S29 a0 a1 ret pn := by kernel_rfl
theorem c29 {a0 a1 : Value} {R : Ending → World → Prop} {w : World} (h : S29 a0 a1 (fun v w => R (.returned v) w) (fun c w => R (.panicked c) w) w) : Calls P 29 #[a0, a1] w R :=
  callsD mixed mo29 lv29 Tryz.func29 rfl (Nat.le_of_ble_eq_true rfl) ok29 ((congrFun (eq29 a0 a1 _ _) w).mpr h)
theorem en29 (args : Array Value) (w : World) : (callFunc 29 args).run P w = .ok (.enter 29 args) w := by kernel_rfl

/-! ### evenhand / evenhandref19.argument -/
def S30 (a0 a1 : Value) (ret : Value → C) (pn : Pn) : C :=
 nextS P (bltN .len #[26] 3 #[false] #[a0]) (fun x7_1 =>
 nextS P (binN .lss 3 (Operand.tmp 5) (Operand.tmp 7) a1 x7_1) (fun x8_2 =>
 condS x8_2
 (nextS P (V (Instr.indexAt 26 a0 a1)) (fun x11_3 =>
 nextS P (V (Instr.loadAt 2 x11_3)) (fun x12_4 =>
 ret x12_4) pn) pn)
 (ret (Value.int IntKind.i64 0))) pn) pn
def mo30 : Nat → Mo := fun _ => .done
def lv30 : Nat → List Nat := fun _ => []
theorem ok30 : okC Tryz.f30.ntmps mo30 (Tryz.f30.body.getD .skip) = true := by kernel_rfl
theorem eq30 (a0 a1 : Value) (ret : Value → C) (pn : Pn) : D P mo30 lv30 pn (Tryz.f30.body.getD .skip) (finQ P Tryz.f30.results ret) (env0 [a0, a1]) = S30 a0 a1 ret pn := by kernel_rfl
theorem c30 {a0 a1 : Value} {R : Ending → World → Prop} {w : World} (h : S30 a0 a1 (fun v w => R (.returned v) w) (fun c w => R (.panicked c) w) w) : Calls P 30 #[a0, a1] w R :=
  callsD mixed mo30 lv30 Tryz.func30 rfl (Nat.le_of_ble_eq_true rfl) ok30 ((congrFun (eq30 a0 a1 _ _) w).mpr h)
theorem en30 (args : Array Value) (w : World) : (callFunc 30 args).run P w = .ok (.enter 30 args) w := by kernel_rfl

/-! ### slices.Clone[[]evenhand / tier.Event,evenhand / tier.Event] -/
def S31 (a0 : Value) (ret : Value → C) (pn : Pn) : C :=
 nextS P (binN .eql 45 (Operand.tmp 3) (Operand.const (Value.slice none 0 0)) a0 (Value.slice none 0 0)) (fun x4_1 =>
 condS x4_1
 (ret (Value.slice none 0 0))
 (nextS P (V (Instr.buildSlice 45 0 #[])) (fun x5_2 =>
 nextS P (bltN .append #[45, 45] 45 #[false, false] #[x5_2, a0]) (fun x7_3 =>
 ret x7_3) pn) pn)) pn
def mo31 : Nat → Mo := fun _ => .done
def lv31 : Nat → List Nat := fun _ => []
theorem ok31 : okC Tryz.f31.ntmps mo31 (Tryz.f31.body.getD .skip) = true := by kernel_rfl
theorem eq31 (a0 : Value) (ret : Value → C) (pn : Pn) : D P mo31 lv31 pn (Tryz.f31.body.getD .skip) (finQ P Tryz.f31.results ret) (env0 [a0]) = S31 a0 ret pn := by kernel_rfl
theorem c31 {a0 : Value} {R : Ending → World → Prop} {w : World} (h : S31 a0 (fun v w => R (.returned v) w) (fun c w => R (.panicked c) w) w) : Calls P 31 #[a0] w R :=
  callsD mixed mo31 lv31 Tryz.func31 rfl (Nat.le_of_ble_eq_true rfl) ok31 ((congrFun (eq31 a0 _ _) w).mpr h)
theorem en31 (args : Array Value) (w : World) : (callFunc 31 args).run P w = .ok (.enter 31 args) w := by kernel_rfl

/-! ### (*strings.Builder).WriteString -/
def S32 (a0 a1 : Value) (ret : Value → C) (pn : Pn) : C :=
 callS P 46 #[a0] (fun x7_1 =>
 nextS P (nilN a0) (fun x10_2 =>
 nextS P (V (Instr.fieldAt 98 x10_2 1)) (fun x11_3 =>
 nextS P (V (Instr.loadAt 96 x11_3)) (fun x12_4 =>
 nextS P (bltN .append #[96, 9] 96 #[false, false] #[x12_4, a1]) (fun x14_5 =>
 nextS P (nilN a0) (fun x15_6 =>
 nextS P (V (Instr.fieldAt 98 x15_6 1)) (fun x16_7 =>
 nextS P (U (Instr.storeAt 96 x16_7 x14_5)) (fun _ =>
 nextS P (bltN .len #[9] 3 #[false] #[a1]) (fun x18_9 =>
 ret (.tuple #[x18_9, Value.nilIface])) pn) pn) pn) pn) pn) pn) pn) pn) pn
def mo32 : Nat → Mo := fun _ => .done
def lv32 : Nat → List Nat := fun _ => []
theorem ok32 : okC Tryz.f32.ntmps mo32 (Tryz.f32.body.getD .skip) = true := by kernel_rfl
theorem eq32 (a0 a1 : Value) (ret : Value → C) (pn : Pn) : D P mo32 lv32 pn (Tryz.f32.body.getD .skip) (finQ P Tryz.f32.results ret) (env0 [a0, a1]) = S32 a0 a1 ret pn := by kernel_rfl
theorem c32 {a0 a1 : Value} {R : Ending → World → Prop} {w : World} (h : S32 a0 a1 (fun v w => R (.returned v) w) (fun c w => R (.panicked c) w) w) : Calls P 32 #[a0, a1] w R :=
  callsD mixed mo32 lv32 Tryz.func32 rfl (Nat.le_of_ble_eq_true rfl) ok32 ((congrFun (eq32 a0 a1 _ _) w).mpr h)
theorem en32 (args : Array Value) (w : World) : (callFunc 32 args).run P w = .ok (.enter 32 args) w := by kernel_rfl

/-! ### (evenhand / code.Ins).line -/
def S33_k2 (ret : Value → C) (pn : Pn) (y5 : Value) : C :=
 callS P 51 #[y5, (Value.string { data := #[32] })] (fun x37_29 =>
 nextS P (binN .add 9 (Operand.tmp 37) (Operand.const (Value.string { data := #[10] })) x37_29 (Value.string { data := #[10] })) (fun x38_30 =>
 ret x38_30) pn) pn
def S33_k1 (ret : Value → C) (pn : Pn) (y2 y5 : Value) : C :=
 nextS P (V (Instr.fieldAt 69 y2 0)) (fun x24_18 =>
 nextS P (V (Instr.loadAt 3 x24_18)) (fun x25_19 =>
 callS P 49 #[x25_19] (fun x26_20 =>
 nextS P (V (Instr.field 128 x26_20 4)) (fun x27_21 =>
 nextS P (binN .and 3 (Operand.tmp 27) (Operand.const (Value.int IntKind.i64 2)) x27_21 (Value.int IntKind.i64 2)) (fun x28_22 =>
 nextS P (binN .neq 3 (Operand.tmp 28) (Operand.const (Value.int IntKind.i64 0)) x28_22 (Value.int IntKind.i64 0)) (fun x29_23 =>
 condS x29_23
 (nextS P (V (Instr.fieldAt 69 y2 2)) (fun x31_24 =>
 nextS P (V (Instr.loadAt 2 x31_24)) (fun x32_25 =>
 callS P 50 #[x32_25, (Value.int IntKind.i64 10)] (fun x33_26 =>
 nextS P (V (Instr.buildSlice 126 1 #[(0, x33_26)])) (fun x34_27 =>
 nextS P (bltN .append #[126, 126] 126 #[false, false] #[y5, x34_27]) (fun x35_28 =>
 S33_k2 ret pn x35_28) pn) pn) pn) pn) pn)
 (S33_k2 ret pn y5)) pn) pn) pn) pn) pn) pn
def S33 (a0 a1 : Value) (ret : Value → C) (pn : Pn) : C :=
 nextS P (V (Instr.box 69 a0)) (fun x2_1 =>
 DrawS fun S =>
 pureS P (V (Instr.fieldAt 69 x2_1 0)) fun x8_2 =>
 takeS S P (V (Instr.loadAt 3 x8_2)) fun x9_3 =>
 callS P 47 #[a1] (fun x7_4 w => S w ∧ (callS P 48 #[x9_3] (fun x10_5 w => S w ∧ (nextS P (V (Instr.buildSlice 126 2 #[(0, x7_4), (1, x10_5)])) (fun x11_6 w => S w ∧ (nextS P (V (Instr.fieldAt 69 x2_1 0)) (fun x12_7 =>
 nextS P (V (Instr.loadAt 3 x12_7)) (fun x13_8 =>
 callS P 49 #[x13_8] (fun x14_9 =>
 nextS P (V (Instr.field 128 x14_9 4)) (fun x15_10 =>
 nextS P (binN .and 3 (Operand.tmp 15) (Operand.const (Value.int IntKind.i64 1)) x15_10 (Value.int IntKind.i64 1)) (fun x16_11 =>
 nextS P (binN .neq 3 (Operand.tmp 16) (Operand.const (Value.int IntKind.i64 0)) x16_11 (Value.int IntKind.i64 0)) (fun x17_12 =>
 condS x17_12
 (nextS P (V (Instr.fieldAt 69 x2_1 1)) (fun x19_13 =>
 nextS P (V (Instr.loadAt 3 x19_13)) (fun x20_14 =>
 callS P 47 #[x20_14] (fun x21_15 =>
 nextS P (V (Instr.buildSlice 126 1 #[(0, x21_15)])) (fun x22_16 =>
 nextS P (bltN .append #[126, 126] 126 #[false, false] #[x11_6, x22_16]) (fun x23_17 =>
 S33_k1 ret pn x2_1 x23_17) pn) pn) pn) pn) pn)
 (S33_k1 ret pn x2_1 x11_6)) pn) pn) pn) pn) pn) pn) w) pn) w) pn) w) pn) pn
def mo33 : Nat → Mo
  | 1 => (Mo.take 0 (Mo.take 2 (Mo.take 3 (Mo.eff 1 (Mo.eff 4 (Mo.eff 5 (Mo.take 6 Mo.done)))))))
  | _ => .done
def lv33 : Nat → List Nat := fun _ => []
theorem ok33 : okC Tryz.f33.ntmps mo33 (Tryz.f33.body.getD .skip) = true := by kernel_rfl
theorem eq33 (a0 a1 : Value) (ret : Value → C) (pn : Pn) : D P mo33 lv33 pn (Tryz.f33.body.getD .skip) (finQ P Tryz.f33.results ret) (env0 [a0, a1]) = S33 a0 a1 ret pn := by kernel_rfl
theorem c33 {a0 a1 : Value} {R : Ending → World → Prop} {w : World} (h : S33 a0 a1 (fun v w => R (.returned v) w) (fun c w => R (.panicked c) w) w) : Calls P 33 #[a0, a1] w R :=
  callsD mixed mo33 lv33 Tryz.func33 rfl (Nat.le_of_ble_eq_true rfl) ok33 ((congrFun (eq33 a0 a1 _ _) w).mpr h)
theorem en33 (args : Array Value) (w : World) : (callFunc 33 args).run P w = .ok (.enter 33 args) w := by kernel_rfl

/-! ### (*strings.Builder).String -/
def S34 (a0 : Value) (ret : Value → C) (pn : Pn) : C :=
 DrawS fun S =>
 pureS P (nilN a0) fun x4_1 =>
 pureS P (V (Instr.fieldAt 98 x4_1 1)) fun x5_2 =>
 takeS S P (V (Instr.loadAt 96 x5_2)) fun x6_3 =>
 takeS S P (bltN .unsafeSliceData #[96] 132 #[false] #[x6_3]) fun x7_4 =>
 pureS P (nilN a0) fun x9_5 =>
 pureS P (V (Instr.fieldAt 98 x9_5 1)) fun x10_6 =>
 takeS S P (V (Instr.loadAt 96 x10_6)) fun x11_7 =>
 takeS S P (bltN .len #[96] 3 #[false] #[x11_7]) fun x12_8 =>
 nextS P (bltN .unsafeString #[132, 3] 9 #[false, false] #[x7_4, x12_8]) (fun x13_9 w => S w ∧ (ret x13_9) w) pn
def mo34 : Nat → Mo
  | 1 => (Mo.take 0 (Mo.take 1 (Mo.take 2 (Mo.take 3 (Mo.take 4 (Mo.take 5 (Mo.take 6 (Mo.take 7 (Mo.take 8 (Mo.take 9 (Mo.eff 10 (Mo.take 11 Mo.done))))))))))))
  | _ => .done
def lv34 : Nat → List Nat := fun _ => []
theorem ok34 : okC Tryz.f34.ntmps mo34 (Tryz.f34.body.getD .skip) = true := by kernel_rfl
theorem eq34 (a0 : Value) (ret : Value → C) (pn : Pn) : D P mo34 lv34 pn (Tryz.f34.body.getD .skip) (finQ P Tryz.f34.results ret) (env0 [a0]) = S34 a0 ret pn := by kernel_rfl
theorem c34 {a0 : Value} {R : Ending → World → Prop} {w : World} (h : S34 a0 (fun v w => R (.returned v) w) (fun c w => R (.panicked c) w) w) : Calls P 34 #[a0] w R :=
  callsD mixed mo34 lv34 Tryz.func34 rfl (Nat.le_of_ble_eq_true rfl) ok34 ((congrFun (eq34 a0 _ _) w).mpr h)
theorem en34 (args : Array Value) (w : World) : (callFunc 34 args).run P w = .ok (.enter 34 args) w := by kernel_rfl

/-! ### (*evenhand / tier.Manager).params -/
def S35 (a0 a1 : Value) (ret : Value → C) (pn : Pn) : C :=
 nextS P (nilN a0) (fun x6_1 =>
 nextS P (V (Instr.fieldAt 66 x6_1 1)) (fun x7_2 =>
 nextS P (V (Instr.fieldAt 24 x7_2 0)) (fun x8_3 =>
 nextS P (V (Instr.loadAt 22 x8_3)) (fun x9_4 =>
 nextS P (V (Instr.indexAt 22 x9_4 a1)) (fun x11_5 =>
 nextS P (V (Instr.fieldAt 59 x11_5 1)) (fun x12_6 =>
 nextS P (V (Instr.loadAt 3 x12_6)) (fun x13_7 =>
 nextS P (bltN .max #[3, 3] 3 #[false, true] #[x13_7, (Value.int IntKind.i64 0)]) (fun x14_8 =>
 nextS P (bltN .min #[3, 3] 3 #[false, true] #[x14_8, (Value.int IntKind.i64 8)]) (fun x15_9 =>
 ret x15_9) pn) pn) pn) pn) pn) pn) pn) pn) pn
def mo35 : Nat → Mo := fun _ => .done
def lv35 : Nat → List Nat := fun _ => []
theorem ok35 : okC Tryz.f35.ntmps mo35 (Tryz.f35.body.getD .skip) = true := by kernel_rfl
theorem eq35 (a0 a1 : Value) (ret : Value → C) (pn : Pn) : D P mo35 lv35 pn (Tryz.f35.body.getD .skip) (finQ P Tryz.f35.results ret) (env0 [a0, a1]) = S35 a0 a1 ret pn := by kernel_rfl
theorem c35 {a0 a1 : Value} {R : Ending → World → Prop} {w : World} (h : S35 a0 a1 (fun v w => R (.returned v) w) (fun c w => R (.panicked c) w) w) : Calls P 35 #[a0, a1] w R :=
  callsD mixed mo35 lv35 Tryz.func35 rfl (Nat.le_of_ble_eq_true rfl) ok35 ((congrFun (eq35 a0 a1 _ _) w).mpr h)
theorem en35 (args : Array Value) (w : World) : (callFunc 35 args).run P w = .ok (.enter 35 args) w := by kernel_rfl

/-! ### (*evenhand / tier.Manager).open -/
def S36 (a0 a1 a2 : Value) (ret : Value → C) (pn : Pn) : C :=
 nextS P (nilN a0) (fun x9_1 =>
 nextS P (V (Instr.fieldAt 66 x9_1 2)) (fun x10_2 =>
 nextS P (V (Instr.loadAt 25 x10_2)) (fun x11_3 =>
 nextS P (bltN .len #[25] 3 #[false] #[x11_3]) (fun x12_4 =>
 nextS P (binN .lss 3 (Operand.tmp 7) (Operand.tmp 12) a1 x12_4) (fun x13_5 =>
 grdS x13_5 true (fun K => K a2) fun x15_6 =>
 grdS x13_5 true (fun K => K a0) fun x16_7 =>
 grdS x13_5 true (fun K => nextS P (nilN x16_7) K pn) fun x17_8 =>
 grdS x13_5 true (fun K => nextS P (V (Instr.fieldAt 66 x17_8 2)) K pn) fun x18_9 =>
 grdS x13_5 true (fun K => nextS P (V (Instr.loadAt 25 x18_9)) K pn) fun x19_10 =>
 grdS x13_5 true (fun K => K a1) fun x20_11 =>
 grdS x13_5 true (fun K => nextS P (V (Instr.indexAt 25 x19_10 x20_11)) K pn) fun x21_12 =>
 grdS x13_5 true (fun K => nextS P (V (Instr.loadAt 56 x21_12)) K pn) fun x22_13 =>
 grdS x13_5 true (fun K => nextS P (bltN .len #[56] 3 #[false] #[x22_13]) K pn) fun x23_14 =>
 grdS x13_5 true (fun K => nextS P (binN .lss 3 (Operand.tmp 15) (Operand.tmp 23) x15_6 x23_14) K pn) fun x24_15 =>
 nextS P (pickN x13_5 x24_15 (Value.bool false)) (fun x25_16 =>
 grdS x25_16 true (fun K => K a0) fun x27_17 =>
 grdS x25_16 true (fun K => nextS P (nilN x27_17) K pn) fun x28_18 =>
 grdS x25_16 true (fun K => nextS P (V (Instr.fieldAt 66 x28_18 2)) K pn) fun x29_19 =>
 grdS x25_16 true (fun K => nextS P (V (Instr.loadAt 25 x29_19)) K pn) fun x30_20 =>
 grdS x25_16 true (fun K => K a1) fun x31_21 =>
 grdS x25_16 true (fun K => nextS P (V (Instr.indexAt 25 x30_20 x31_21)) K pn) fun x32_22 =>
 grdS x25_16 true (fun K => nextS P (V (Instr.loadAt 56 x32_22)) K pn) fun x33_23 =>
 grdS x25_16 true (fun K => K a2) fun x34_24 =>
 grdS x25_16 true (fun K => nextS P (V (Instr.indexAt 56 x33_23 x34_24)) K pn) fun x35_25 =>
 grdS x25_16 true (fun K => nextS P (V (Instr.loadAt 4 x35_25)) K pn) fun x36_26 =>
 nextS P (pickN x25_16 x36_26 (Value.bool false)) (fun x37_27 =>
 ret x37_27) pn) pn) pn) pn) pn) pn) pn
def mo36 : Nat → Mo := fun _ => .done
def lv36 : Nat → List Nat := fun _ => []
theorem ok36 : okC Tryz.f36.ntmps mo36 (Tryz.f36.body.getD .skip) = true := by kernel_rfl
theorem eq36 (a0 a1 a2 : Value) (ret : Value → C) (pn : Pn) : D P mo36 lv36 pn (Tryz.f36.body.getD .skip) (finQ P Tryz.f36.results ret) (env0 [a0, a1, a2]) = S36 a0 a1 a2 ret pn := by kernel_rfl
theorem c36 {a0 a1 a2 : Value} {R : Ending → World → Prop} {w : World} (h : S36 a0 a1 a2 (fun v w => R (.returned v) w) (fun c w => R (.panicked c) w) w) : Calls P 36 #[a0, a1, a2] w R :=
  callsD mixed mo36 lv36 Tryz.func36 rfl (Nat.le_of_ble_eq_true rfl) ok36 ((congrFun (eq36 a0 a1 a2 _ _) w).mpr h)
theorem en36 (args : Array Value) (w : World) : (callFunc 36 args).run P w = .ok (.enter 36 args) w := by kernel_rfl

/-! ### (*evenhand / profile.Profile).of -/
def S37 (a0 a1 : Value) (ret : Value → C) (pn : Pn) : C :=
 nextS P (binN .lss 3 (Operand.tmp 5) (Operand.const (Value.int IntKind.i64 0)) a1 (Value.int IntKind.i64 0)) (fun x6_1 =>
 grdS x6_1 false (fun K => K a1) fun x8_2 =>
 grdS x6_1 false (fun K => K a0) fun x9_3 =>
 grdS x6_1 false (fun K => nextS P (nilN x9_3) K pn) fun x10_4 =>
 grdS x6_1 false (fun K => nextS P (V (Instr.fieldAt 110 x10_4 0)) K pn) fun x11_5 =>
 grdS x6_1 false (fun K => nextS P (V (Instr.loadAt 108 x11_5)) K pn) fun x12_6 =>
 grdS x6_1 false (fun K => nextS P (bltN .len #[108] 3 #[false] #[x12_6]) K pn) fun x13_7 =>
 grdS x6_1 false (fun K => nextS P (binN .geq 3 (Operand.tmp 8) (Operand.tmp 13) x8_2 x13_7) K pn) fun x14_8 =>
 nextS P (pickN x6_1 (Value.bool true) x14_8) (fun x15_9 =>
 condS x15_9
 (ret (Value.pointer none))
 (nextS P (nilN a0) (fun x17_10 =>
 nextS P (V (Instr.fieldAt 110 x17_10 0)) (fun x18_11 =>
 nextS P (V (Instr.loadAt 108 x18_11)) (fun x19_12 =>
 nextS P (V (Instr.indexAt 108 x19_12 a1)) (fun x21_13 =>
 ret x21_13) pn) pn) pn) pn)) pn) pn
def mo37 : Nat → Mo := fun _ => .done
def lv37 : Nat → List Nat := fun _ => []
theorem ok37 : okC Tryz.f37.ntmps mo37 (Tryz.f37.body.getD .skip) = true := by kernel_rfl
theorem eq37 (a0 a1 : Value) (ret : Value → C) (pn : Pn) : D P mo37 lv37 pn (Tryz.f37.body.getD .skip) (finQ P Tryz.f37.results ret) (env0 [a0, a1]) = S37 a0 a1 ret pn := by kernel_rfl
theorem c37 {a0 a1 : Value} {R : Ending → World → Prop} {w : World} (h : S37 a0 a1 (fun v w => R (.returned v) w) (fun c w => R (.panicked c) w) w) : Calls P 37 #[a0, a1] w R :=
  callsD mixed mo37 lv37 Tryz.func37 rfl (Nat.le_of_ble_eq_true rfl) ok37 ((congrFun (eq37 a0 a1 _ _) w).mpr h)
theorem en37 (args : Array Value) (w : World) : (callFunc 37 args).run P w = .ok (.enter 37 args) w := by kernel_rfl

/-! ### (*evenhand / profile.run).see -/
def S38_k1 (ret : Value → C) (pn : Pn) (y0 : Value) : C :=
 nextS P (nilN y0) (fun x16_8 =>
 nextS P (V (Instr.fieldAt 112 x16_8 1)) (fun x17_9 =>
 nextS P (V (Instr.loadAt 3 x17_9)) (fun x18_10 =>
 nextS P (binN .add 3 (Operand.tmp 18) (Operand.const (Value.int IntKind.i64 1)) x18_10 (Value.int IntKind.i64 1)) (fun x19_11 =>
 nextS P (bltN .min #[3, 3] 3 #[false, true] #[x19_11, (Value.int IntKind.i64 1000)]) (fun x20_12 =>
 nextS P (nilN y0) (fun x21_13 =>
 nextS P (V (Instr.fieldAt 112 x21_13 1)) (fun x22_14 =>
 nextS P (U (Instr.storeAt 3 x22_14 x20_12)) (fun _ =>
 ret (.tuple #[])) pn) pn) pn) pn) pn) pn) pn) pn
def S38 (a0 a1 : Value) (ret : Value → C) (pn : Pn) : C :=
 nextS P (nilN a0) (fun x5_1 =>
 nextS P (V (Instr.fieldAt 112 x5_1 0)) (fun x6_2 =>
 nextS P (V (Instr.loadAt 2 x6_2)) (fun x7_3 =>
 nextS P (binN .neq 2 (Operand.tmp 7) (Operand.tmp 8) x7_3 a1) (fun x9_4 =>
 condS x9_4
 (nextS P (V (Instr.build 112 #[(0, a1)])) (fun x12_5 =>
 nextS P (nilN a0) (fun x13_6 =>
 nextS P (U (Instr.storeAt 112 x13_6 x12_5)) (fun _ =>
 S38_k1 ret pn a0) pn) pn) pn)
 (S38_k1 ret pn a0)) pn) pn) pn) pn
def mo38 : Nat → Mo := fun _ => .done
def lv38 : Nat → List Nat := fun _ => []
theorem ok38 : okC Tryz.f38.ntmps mo38 (Tryz.f38.body.getD .skip) = true := by kernel_rfl
theorem eq38 (a0 a1 : Value) (ret : Value → C) (pn : Pn) : D P mo38 lv38 pn (Tryz.f38.body.getD .skip) (finQ P Tryz.f38.results ret) (env0 [a0, a1]) = S38 a0 a1 ret pn := by kernel_rfl
theorem c38 {a0 a1 : Value} {R : Ending → World → Prop} {w : World} (h : S38 a0 a1 (fun v w => R (.returned v) w) (fun c w => R (.panicked c) w) w) : Calls P 38 #[a0, a1] w R :=
  callsD mixed mo38 lv38 Tryz.func38 rfl (Nat.le_of_ble_eq_true rfl) ok38 ((congrFun (eq38 a0 a1 _ _) w).mpr h)
theorem en38 (args : Array Value) (w : World) : (callFunc 38 args).run P w = .ok (.enter 38 args) w := by kernel_rfl

/-! ### (*evenhand / tier.Manager).body -/
def S39_l1 (nx1 : List Value → C) (ret : Value → C) (pn : Pn) (e : Env) : C :=
 nextS P (binN .lss 3 (Operand.tmp 22) (Operand.tmp 21) (e 22) (e 21)) (fun x23_10 =>
 condS x23_10
 (nextS P (binN .eql 2 (Operand.tmp 25) (Operand.const (Value.int IntKind.i64 2)) (e 2) (Value.int IntKind.i64 2)) (fun x26_11 =>
 grdS x26_11 true (fun K => K (e 0)) fun x28_12 =>
 grdS x26_11 true (fun K => K (e 1)) fun x29_13 =>
 grdS x26_11 true (fun K => K (e 22)) fun x30_14 =>
 grdS x26_11 true (fun K => callS P 36 #[x28_12, x29_13, x30_14] K pn) fun x31_15 =>
 nextS P (pickN x26_11 x31_15 (Value.bool false)) (fun x32_16 =>
 condS x32_16
 (nextS P (nilN (e 0)) (fun x35_17 =>
 nextS P (V (Instr.fieldAt 66 x35_17 4)) (fun x36_18 =>
 nextS P (V (Instr.loadAt 64 x36_18)) (fun x37_19 =>
 callS P 52 #[x37_19, (e 1), (e 22)] (fun x40_20 =>
 nextS P (V (Instr.extract x40_20 0)) (fun x41_21 =>
 nextS P (V (Instr.extract x40_20 1)) (fun x42_22 =>
 nextS P (nilN (e 0)) (fun x44_23 =>
 nextS P (V (Instr.fieldAt 66 x44_23 5)) (fun x45_24 =>
 nextS P (V (Instr.loadAt 63 x45_24)) (fun x46_25 =>
 nextS P (V (Instr.build 86 #[(0, (e 22)), (1, x41_21)])) (fun x50_26 =>
 nextS P (U (Instr.mapUpdate 63 x46_25 (e 1) x50_26)) (fun _ =>
 nextS P (V (Instr.loadAt 59 (e 7))) (fun x51_28 =>
 callS P 53 #[x51_28, (e 22), x41_21] (fun x54_29 =>
 ret x54_29) pn) pn) pn) pn) pn) pn) pn) pn) pn) pn) pn) pn) pn)
 (nextS P (binN .add 3 (Operand.tmp 22) (Operand.const (Value.int IntKind.i64 1)) (e 22) (Value.int IntKind.i64 1)) (fun x55_30 =>
 nx1 [(e 0), (e 1), (e 2), (e 7), (e 21), x55_30]) pn)) pn) pn)
 (nextS P (V (Instr.loadAt 59 (e 7))) (fun x56_31 =>
 callS P 54 #[x56_31] (fun x57_32 =>
 ret x57_32) pn) pn)) pn
def S39 (a0 a1 a2 : Value) (ret : Value → C) (pn : Pn) : C :=
 nextS P (nilN a0) (fun x12_1 =>
 nextS P (V (Instr.fieldAt 66 x12_1 1)) (fun x13_2 =>
 nextS P (V (Instr.fieldAt 24 x13_2 0)) (fun x14_3 =>
 nextS P (V (Instr.loadAt 22 x14_3)) (fun x15_4 =>
 nextS P (V (Instr.indexAt 22 x15_4 a1)) (fun x17_5 =>
 nextS P (V (Instr.loadAt 59 x17_5)) (fun x18_6 =>
 nextS P (V (Instr.alloc 59 true (.tuple #[]))) (fun x7_7 =>
 nextS P (U (Instr.storeAt 59 x7_7 x18_6)) (fun _ =>
 callS P 35 #[a0, a1] (fun x21_9 =>
 LoopS [a0, a1, a2, x7_7, x21_9, (Value.int IntKind.i64 0)] [0, 1, 2, 7, 21, 22] fun nx1 e => S39_l1 nx1 ret pn e) pn) pn) pn) pn) pn) pn) pn) pn) pn
def mo39 : Nat → Mo := fun _ => .done
def lv39 : Nat → List Nat
  | 3 => [0, 1, 2, 7, 21, 22]
  | _ => []
theorem ok39 : okC Tryz.f39.ntmps mo39 (Tryz.f39.body.getD .skip) = true := by kernel_rfl
theorem eq39 (a0 a1 a2 : Value) (ret : Value → C) (pn : Pn) : D P mo39 lv39 pn (Tryz.f39.body.getD .skip) (finQ P Tryz.f39.results ret) (env0 [a0, a1, a2]) = S39 a0 a1 a2 ret pn := by kernel_rfl
theorem c39 {a0 a1 a2 : Value} {R : Ending → World → Prop} {w : World} (h : S39 a0 a1 a2 (fun v w => R (.returned v) w) (fun c w => R (.panicked c) w) w) : Calls P 39 #[a0, a1, a2] w R :=
  callsD mixed mo39 lv39 Tryz.func39 rfl (Nat.le_of_ble_eq_true rfl) ok39 ((congrFun (eq39 a0 a1 a2 _ _) w).mpr h)
theorem en39 (args : Array Value) (w : World) : (callFunc 39 args).run P w = .ok (.enter 39 args) w := by kernel_rfl

/-! ### (*evenhand / cache.Cache).Put -/
def S40_k1 (ret : Value → C) (pn : Pn) (y0 y1 y2 y8 y9 : Value) : C :=
 nextS P (nilN y0) (fun x34_17 =>
 nextS P (V (Instr.fieldAt 107 x34_17 1)) (fun x35_18 =>
 nextS P (V (Instr.loadAt 71 x35_18)) (fun x36_19 =>
 nextS P (V (Instr.buildSlice 71 1 #[(0, y1)])) (fun x38_20 =>
 nextS P (bltN .append #[71, 71] 71 #[false, false] #[x36_19, x38_20]) (fun x39_21 =>
 nextS P (nilN y0) (fun x40_22 =>
 nextS P (V (Instr.fieldAt 107 x40_22 1)) (fun x41_23 =>
 nextS P (U (Instr.storeAt 71 x41_23 x39_21)) (fun _ =>
 DrawS fun S =>
 pureS P (nilN y0) fun x43_25 =>
 pureS P (V (Instr.fieldAt 107 x43_25 2)) fun x44_26 =>
 takeS S P (V (Instr.loadAt 105 x44_26)) fun x45_27 =>
 callS P 16 #[y2] (fun x48_28 w => S w ∧ (nextS P (U (Instr.mapUpdate 105 x45_27 y1 x48_28)) (fun _ w => S w ∧ (ret (.tuple #[y8, y9])) w) pn) w) pn) pn) pn) pn) pn) pn) pn) pn) pn
def S40 (a0 a1 a2 : Value) (ret : Value → C) (pn : Pn) : C :=
 DrawS fun S =>
 callS P 24 #[a0, a1] (fun x12_1 w => S w ∧ (pureS P (V (Op.unary .not x12_1)) fun x13_2 =>
 grdS x13_2 true (fun K => K a0) fun x15_3 =>
 grdS x13_2 true (fun K => K a0) fun x17_4 =>
 grdS x13_2 true (pureS P (nilN x17_4)) fun x18_5 =>
 grdS x13_2 true (pureS P (V (Instr.fieldAt 107 x18_5 0))) fun x19_6 =>
 grdS x13_2 true (takeS S P (V (Instr.loadAt 3 x19_6))) fun x20_7 =>
 grdS x13_2 true (fun K => callS P 55 #[x15_3] K pn) fun x16_8 w => S w ∧ (grdS x13_2 true (pureS P (binN .eql 3 (Operand.tmp 16) (Operand.tmp 20) x16_8 x20_7)) fun x21_9 =>
 pureS P (pickN x13_2 x21_9 (Value.bool false)) fun x22_10 =>
 condS x22_10
 (nextS P (nilN a0) (fun x24_11 =>
 nextS P (V (Instr.fieldAt 107 x24_11 1)) (fun x25_12 =>
 nextS P (V (Instr.loadAt 71 x25_12)) (fun x26_13 =>
 nextS P (V (Instr.indexAt 71 x26_13 (Value.int IntKind.i64 0))) (fun x27_14 =>
 nextS P (V (Instr.loadAt 3 x27_14)) (fun x28_15 =>
 callS P 24 #[a0, x28_15] (fun x31_16 =>
 S40_k1 ret pn a0 a1 a2 x28_15 x31_16) pn) pn) pn) pn) pn) pn)
 (S40_k1 ret pn a0 a1 a2 (Value.int IntKind.i64 0) (Value.bool false))) w) w) pn
def mo40 : Nat → Mo
  | 2 => (Mo.take 0 (Mo.take 1 (Mo.eff 2 (Mo.take 3 (Mo.take 4 (Mo.take 5 (Mo.take 7 (Mo.take 8 (Mo.take 9 (Mo.take 10 (Mo.eff 6 (Mo.take 11 (Mo.take 12 Mo.done)))))))))))))
  | 6 => (Mo.take 0 (Mo.take 1 (Mo.take 2 (Mo.take 3 (Mo.take 4 (Mo.take 5 (Mo.eff 6 (Mo.eff 7 Mo.done))))))))
  | _ => .done
def lv40 : Nat → List Nat := fun _ => []
theorem ok40 : okC Tryz.f40.ntmps mo40 (Tryz.f40.body.getD .skip) = true := by kernel_rfl
theorem eq40 (a0 a1 a2 : Value) (ret : Value → C) (pn : Pn) : D P mo40 lv40 pn (Tryz.f40.body.getD .skip) (finQ P Tryz.f40.results ret) (env0 [a0, a1, a2]) = S40 a0 a1 a2 ret pn := by kernel_rfl
theorem c40 {a0 a1 a2 : Value} {R : Ending → World → Prop} {w : World} (h : S40 a0 a1 a2 (fun v w => R (.returned v) w) (fun c w => R (.panicked c) w) w) : Calls P 40 #[a0, a1, a2] w R :=
  callsD mixed mo40 lv40 Tryz.func40 rfl (Nat.le_of_ble_eq_true rfl) ok40 ((congrFun (eq40 a0 a1 a2 _ _) w).mpr h)
theorem en40 (args : Array Value) (w : World) : (callFunc 40 args).run P w = .ok (.enter 40 args) w := by kernel_rfl

/-! ### slices.DeleteFunc[[]int,int] -/
def S41_k2 (nx1 : List Value → C) (ret : Value → C) (pn : Pn) (y0 y1 y5 y6 : Value) : C :=
 nextS P (binN .add 3 (Operand.tmp 20) (Operand.const (Value.int IntKind.i64 1)) y6 (Value.int IntKind.i64 1)) (fun x21_13 =>
 nx1 [y0, y1, y5, x21_13]) pn
def S41_l1 (nx1 : List Value → C) (ret : Value → C) (pn : Pn) (e : Env) : C :=
 nextS P (bltN .len #[71] 3 #[false] #[(e 0)]) (fun x18_4 =>
 nextS P (binN .lss 3 (Operand.tmp 16) (Operand.tmp 18) (e 6) x18_4) (fun x19_5 =>
 condS x19_5
 (nextS P (V (Instr.indexAt 71 (e 0) (e 6))) (fun x24_6 =>
 nextS P (V (Instr.loadAt 3 x24_6)) (fun x25_7 =>
 nextS P (callVN (e 1) #[x25_7]) (fun x28_8 =>
 nextS P (V (Op.unary .not x28_8)) (fun x29_9 =>
 condS x29_9
 (nextS P (V (Instr.indexAt 71 (e 0) (e 5))) (fun x33_10 =>
 nextS P (U (Instr.storeAt 3 x33_10 x25_7)) (fun _ =>
 nextS P (binN .add 3 (Operand.tmp 34) (Operand.const (Value.int IntKind.i64 1)) (e 5) (Value.int IntKind.i64 1)) (fun x35_12 =>
 S41_k2 nx1 ret pn (e 0) (e 1) x35_12 (e 6)) pn) pn) pn)
 (S41_k2 nx1 ret pn (e 0) (e 1) (e 5) (e 6))) pn) pn) pn) pn)
 (nextS P (V (Instr.sliceAt 71 (e 0) (some (e 5)) none none)) (fun x38_14 =>
 nextS P (bltN .clear #[71] 0 #[false] #[x38_14]) (fun _ =>
 nextS P (V (Instr.sliceAt 71 (e 0) none (some (e 5)) none)) (fun x41_16 =>
 ret x41_16) pn) pn) pn)) pn) pn
def S41 (a0 a1 : Value) (ret : Value → C) (pn : Pn) : C :=
 callS P 56 #[a0, a1] (fun x10_1 =>
 nextS P (binN .eql 3 (Operand.tmp 11) (Operand.const (Value.int IntKind.i64 (-1))) x10_1 (Value.int IntKind.i64 (-1))) (fun x12_2 =>
 condS x12_2
 (ret a0)
 (nextS P (binN .add 3 (Operand.tmp 14) (Operand.const (Value.int IntKind.i64 1)) x10_1 (Value.int IntKind.i64 1)) (fun x15_3 =>
 LoopS [a0, a1, x10_1, x15_3] [0, 1, 5, 6] fun nx1 e => S41_l1 nx1 ret pn e) pn)) pn) pn
def mo41 : Nat → Mo := fun _ => .done
def lv41 : Nat → List Nat
  | 5 => [0, 1, 5, 6]
  | _ => []
theorem ok41 : okC Tryz.f41.ntmps mo41 (Tryz.f41.body.getD .skip) = true := by kernel_rfl
theorem eq41 (a0 a1 : Value) (ret : Value → C) (pn : Pn) : D P mo41 lv41 pn (Tryz.f41.body.getD .skip) (finQ P Tryz.f41.results ret) (env0 [a0, a1]) = S41 a0 a1 ret pn := by kernel_rfl
theorem c41 {a0 a1 : Value} {R : Ending → World → Prop} {w : World} (h : S41 a0 a1 (fun v w => R (.returned v) w) (fun c w => R (.panicked c) w) w) : Calls P 41 #[a0, a1] w R :=
  callsD mixed mo41 lv41 Tryz.func41 rfl (Nat.le_of_ble_eq_true rfl) ok41 ((congrFun (eq41 a0 a1 _ _) w).mpr h)
theorem en41 (args : Array Value) (w : World) : (callFunc 41 args).run P w = .ok (.enter 41 args) w := by kernel_rfl

/-! ### (*evenhand / cache.Cache).Drop$1 -/
def S42 (a0 a1 : Value) (ret : Value → C) (pn : Pn) : C :=
 nextS P (V (Instr.loadAt 3 a1)) (fun x5_1 =>
 nextS P (binN .eql 3 (Operand.tmp 4) (Operand.tmp 5) a0 x5_1) (fun x6_2 =>
 ret x6_2) pn) pn
def mo42 : Nat → Mo := fun _ => .done
def lv42 : Nat → List Nat := fun _ => []
theorem ok42 : okC Tryz.f42.ntmps mo42 (Tryz.f42.body.getD .skip) = true := by kernel_rfl
theorem eq42 (a0 a1 : Value) (ret : Value → C) (pn : Pn) : D P mo42 lv42 pn (Tryz.f42.body.getD .skip) (finQ P Tryz.f42.results ret) (env0 [a0, a1]) = S42 a0 a1 ret pn := by kernel_rfl
theorem c42 {a0 a1 : Value} {R : Ending → World → Prop} {w : World} (h : S42 a0 a1 (fun v w => R (.returned v) w) (fun c w => R (.panicked c) w) w) : Calls P 42 #[a0, a1] w R :=
  callsD mixed mo42 lv42 Tryz.func42 rfl (Nat.le_of_ble_eq_true rfl) ok42 ((congrFun (eq42 a0 a1 _ _) w).mpr h)
theorem en42 (args : Array Value) (w : World) : (callFunc 42 args).run P w = .ok (.enter 42 args) w := by kernel_rfl

end Go.Proofs.YtkonigmefmgepaaGreatDoor
