/- The shallow forms of the loaded functions, written by wip/gen.py out of the print of the loaded program: no idea stands in it. -/
import Derived.Test.YtkonigmefmgepaaGreatDoorFwA
import Derived.Test.YtkonigmefmgepaaGreatDoorProg
namespace Go.Proofs.YtkonigmefmgepaaGreatDoor
noncomputable abbrev P : Program := Tryz.prog
theorem mixed : P.follows .mixedOrders = true := by kernel_rfl
set_option maxRecDepth 100000
set_option linter.unusedVariables false
/-! ### evenhand / evenhandlaw19.TierTells -/
def S3_l2 (nx2 : List Value → C) (ret : Value → C) (pn : Pn) (e : Env) : C :=
 nextS P (bltN .len #[45] 3 #[false] #[(e 21)]) (fun x112_58 =>
 nextS P (binN .lss 3 (Operand.tmp 110) (Operand.tmp 112) (e 22) x112_58) (fun x113_59 =>
 condS x113_59
 (DrawS fun S =>
 pureS P (V (Instr.indexAt 45 (e 21) (e 22))) fun x118_60 =>
 pureS P (V (Instr.fieldAt 52 x118_60 0)) fun x119_61 =>
 takeS S P (V (Instr.loadAt 3 x119_61)) fun x120_62 =>
 pureS P (nilN (e 13)) fun x122_63 =>
 pureS P (V (Instr.fieldAt 50 x122_63 5)) fun x123_64 =>
 takeS S P (V (Instr.loadAt 48 x123_64)) fun x124_65 =>
 pureS P (V (Instr.indexAt 48 x124_65 (e 22))) fun x126_66 =>
 pureS P (V (Instr.fieldAt 53 x126_66 0)) fun x127_67 =>
 takeS S P (V (Instr.loadAt 3 x127_67)) fun x128_68 =>
 pureS P (binN .neq 3 (Operand.tmp 120) (Operand.tmp 128) x120_62 x128_68) fun x129_69 =>
 grdS x129_69 false (fun K => K (e 21)) fun x131_70 =>
 grdS x129_69 false (fun K => K (e 22)) fun x132_71 =>
 grdS x129_69 false (pureS P (V (Instr.indexAt 45 x131_70 x132_71))) fun x133_72 =>
 grdS x129_69 false (pureS P (V (Instr.fieldAt 52 x133_72 1))) fun x134_73 =>
 grdS x129_69 false (takeS S P (V (Instr.loadAt 3 x134_73))) fun x135_74 =>
 grdS x129_69 false (fun K => K (e 13)) fun x136_75 =>
 grdS x129_69 false (pureS P (nilN x136_75)) fun x137_76 =>
 grdS x129_69 false (pureS P (V (Instr.fieldAt 50 x137_76 5))) fun x138_77 =>
 grdS x129_69 false (takeS S P (V (Instr.loadAt 48 x138_77))) fun x139_78 =>
 grdS x129_69 false (fun K => K (e 22)) fun x140_79 =>
 grdS x129_69 false (pureS P (V (Instr.indexAt 48 x139_78 x140_79))) fun x141_80 =>
 grdS x129_69 false (pureS P (V (Instr.fieldAt 53 x141_80 1))) fun x142_81 =>
 grdS x129_69 false (takeS S P (V (Instr.loadAt 3 x142_81))) fun x143_82 =>
 grdS x129_69 false (pureS P (binN .neq 3 (Operand.tmp 135) (Operand.tmp 143) x135_74 x143_82)) fun x144_83 =>
 pureS P (pickN x129_69 (Value.bool true) x144_83) fun x145_84 =>
 condS x145_84
 (ret (Value.bool false))
 (nextS P (binN .add 3 (Operand.tmp 114) (Operand.const (Value.int IntKind.i64 1)) (e 22) (Value.int IntKind.i64 1)) (fun x115_85 =>
 nx2 [(e 11), (e 13), (e 21), x115_85]) pn))
 (ret (e 11))) pn) pn
def S3_l1 (nx1 : List Value → C) (ret : Value → C) (pn : Pn) (e : Env) : C :=
 nextS P (bltN .len #[27] 3 #[false] #[(e 4)]) (fun x46_15 =>
 nextS P (binN .lss 3 (Operand.tmp 44) (Operand.tmp 46) (e 14) x46_15) (fun x47_16 =>
 grdS x47_16 true (fun K => K (e 14)) fun x49_17 =>
 grdS x47_16 true (fun K => nextS P (binN .lss 3 (Operand.tmp 49) (Operand.const (Value.int IntKind.i64 100)) x49_17 (Value.int IntKind.i64 100)) K pn) fun x50_18 =>
 nextS P (pickN x47_16 x50_18 (Value.bool false)) (fun x51_19 =>
 condS x51_19
 (DrawS fun S =>
 pureS P (V (Instr.indexAt 27 (e 4) (e 14))) fun x58_20 =>
 pureS P (V (Instr.fieldAt 40 x58_20 0)) fun x59_21 =>
 takeS S P (V (Instr.loadAt 3 x59_21)) fun x60_22 =>
 pureS P (V (Instr.indexAt 27 (e 4) (e 14))) fun x63_23 =>
 pureS P (V (Instr.fieldAt 40 x63_23 1)) fun x64_24 =>
 takeS S P (V (Instr.loadAt 26 x64_24)) fun x65_25 =>
 callS P 9 #[(e 12), x60_22, x65_25] (fun x66_26 w => S w ∧ (pureS P (V (Instr.extract x66_26 0)) fun x67_27 =>
 pureS P (V (Instr.extract x66_26 1)) fun x68_28 =>
 pureS P (V (Instr.extract x66_26 2)) fun x69_29 =>
 DrawS fun S =>
 pureS P (V (Instr.indexAt 27 (e 4) (e 14))) fun x74_30 =>
 pureS P (V (Instr.fieldAt 40 x74_30 0)) fun x75_31 =>
 takeS S P (V (Instr.loadAt 3 x75_31)) fun x76_32 =>
 pureS P (V (Instr.indexAt 27 (e 4) (e 14))) fun x79_33 =>
 pureS P (V (Instr.fieldAt 40 x79_33 1)) fun x80_34 =>
 takeS S P (V (Instr.loadAt 26 x80_34)) fun x81_35 =>
 callS P 10 #[(e 13), x76_32, x81_35] (fun x82_36 w => S w ∧ (pureS P (V (Instr.extract x82_36 0)) fun x83_37 =>
 pureS P (V (Instr.extract x82_36 1)) fun x84_38 =>
 pureS P (V (Instr.extract x82_36 2)) fun x85_39 =>
 nextS P (binN .neq 4 (Operand.tmp 86) (Operand.tmp 87) x68_28 x84_38) (fun x88_40 =>
 grdS x88_40 false (fun K => K x69_29) fun x90_41 =>
 grdS x88_40 false (fun K => K x85_39) fun x91_42 =>
 grdS x88_40 false (fun K => nextS P (binN .neq 2 (Operand.tmp 90) (Operand.tmp 91) x90_41 x91_42) K pn) fun x92_43 =>
 nextS P (pickN x88_40 (Value.bool true) x92_43) (fun x93_44 =>
 grdS x93_44 false (fun K => K x67_27) fun x95_45 =>
 grdS x93_44 false (fun K => K x83_37) fun x96_46 =>
 grdS x93_44 false (fun K => callS P 11 #[x95_45, x96_46] K pn) fun x97_47 =>
 grdS x93_44 false (fun K => nextS P (V (Op.unary .not x97_47)) K pn) fun x98_48 =>
 nextS P (pickN x93_44 (Value.bool true) x98_48) (fun x99_49 =>
 condS x99_49
 (ret (Value.bool false))
 (nextS P (binN .add 3 (Operand.tmp 52) (Operand.const (Value.int IntKind.i64 1)) (e 14) (Value.int IntKind.i64 1)) (fun x53_50 =>
 nx1 [(e 4), (e 11), (e 12), (e 13), x53_50]) pn)) pn) pn) pn) w) pn) w) pn)
 (callS P 12 #[(e 12)] (fun x101_51 =>
 nextS P (bltN .len #[45] 3 #[false] #[x101_51]) (fun x103_52 =>
 nextS P (nilN (e 13)) (fun x105_53 =>
 nextS P (V (Instr.fieldAt 50 x105_53 5)) (fun x106_54 =>
 nextS P (V (Instr.loadAt 48 x106_54)) (fun x107_55 =>
 nextS P (bltN .len #[48] 3 #[false] #[x107_55]) (fun x108_56 =>
 nextS P (binN .neq 3 (Operand.tmp 103) (Operand.tmp 108) x103_52 x108_56) (fun x109_57 =>
 condS x109_57
 (ret (Value.bool false))
 (LoopS [(e 11), (e 13), x101_51, (Value.int IntKind.i64 0)] [11, 13, 21, 22] fun nx2 e => S3_l2 nx2 ret pn e)) pn) pn) pn) pn) pn) pn) pn)) pn) pn) pn
def S3 (a0 a1 a2 a3 a4 : Value) (ret : Value → C) (pn : Pn) : C :=
 nextS P (V (Instr.box 24 a0)) (fun x5_1 =>
 callS P 4 #[] (fun x23_2 =>
 nextS P (V (Instr.loadAt 24 x5_1)) (fun x24_3 =>
 callS P 5 #[x24_3] (fun x25_4 =>
 nextS P (U (Instr.storeAt 24 x5_1 x25_4)) (fun _ =>
 nextS P (bltN .len #[26] 3 #[false] #[a3]) (fun x28_6 =>
 nextS P (bltN .min #[3, 3] 3 #[false, true] #[x28_6, (Value.int IntKind.i64 200)]) (fun x29_7 =>
 nextS P (V (Instr.sliceAt 26 a3 none (some x29_7) none)) (fun x30_8 =>
 nextS P (V (Instr.loadAt 24 x5_1)) (fun x31_9 =>
 callS P 6 #[x31_9, a1, a2, x30_8] (fun x35_10 =>
 nextS P (V (Instr.loadAt 24 x5_1)) (fun x36_11 =>
 callS P 8 #[x36_11] (fun x37_12 =>
 callS P 7 #[x37_12, a1, a2, x30_8] (fun x41_13 =>
 nextS P (binN .eql 30 (Operand.tmp 42) (Operand.const (Value.pointer none)) x35_10 (Value.pointer none)) (fun x43_14 =>
 condS x43_14
 (ret (Value.bool false))
 (LoopS [a4, x23_2, x35_10, x41_13, (Value.int IntKind.i64 0)] [4, 11, 12, 13, 14] fun nx1 e => S3_l1 nx1 ret pn e)) pn) pn) pn) pn) pn) pn) pn) pn) pn) pn) pn) pn) pn) pn
def mo3 : Nat → Mo
  | 11 => (Mo.take 0 (Mo.take 1 (Mo.take 2 (Mo.take 3 (Mo.take 4 (Mo.take 5 (Mo.take 6 (Mo.take 7 (Mo.take 8 (Mo.take 9 (Mo.take 10 (Mo.eff 11 (Mo.take 12 (Mo.take 13 (Mo.take 14 (Mo.take 15 (Mo.take 16 (Mo.take 17 (Mo.take 18 Mo.done)))))))))))))))))))
  | 12 => (Mo.take 0 (Mo.take 1 (Mo.take 2 (Mo.take 3 (Mo.take 4 (Mo.take 5 (Mo.take 6 (Mo.take 7 (Mo.take 8 (Mo.take 9 (Mo.take 10 (Mo.eff 11 (Mo.take 12 (Mo.take 13 (Mo.take 14 (Mo.take 15 (Mo.take 16 (Mo.take 17 (Mo.take 18 Mo.done)))))))))))))))))))
  | 21 => (Mo.take 0 (Mo.take 1 (Mo.take 2 (Mo.take 3 (Mo.take 4 (Mo.take 5 (Mo.take 6 (Mo.take 7 (Mo.take 8 (Mo.take 9 (Mo.take 10 (Mo.take 11 (Mo.take 12 (Mo.take 13 (Mo.take 14 (Mo.take 15 (Mo.take 16 (Mo.take 17 (Mo.take 18 (Mo.take 19 (Mo.take 20 (Mo.take 21 (Mo.take 22 (Mo.take 23 (Mo.take 24 (Mo.take 25 (Mo.take 26 (Mo.take 27 (Mo.take 28 (Mo.take 29 Mo.done))))))))))))))))))))))))))))))
  | _ => .done
def lv3 : Nat → List Nat
  | 9 => [4, 11, 12, 13, 14]
  | 19 => [11, 13, 21, 22]
  | _ => []
theorem ok3 : okC Tryz.f3.ntmps mo3 (Tryz.f3.body.getD .skip) = true := by kernel_rfl
theorem eq3 (a0 a1 a2 a3 a4 : Value) (ret : Value → C) (pn : Pn) : D P mo3 lv3 pn (Tryz.f3.body.getD .skip) (finQ P Tryz.f3.results ret) (env0 [a0, a1, a2, a3, a4]) = S3 a0 a1 a2 a3 a4 ret pn := by kernel_rfl
theorem c3 {a0 a1 a2 a3 a4 : Value} {R : Ending → World → Prop} {w : World} (h : S3 a0 a1 a2 a3 a4 (fun v w => R (.returned v) w) (fun c w => R (.panicked c) w) w) : Calls P 3 #[a0, a1, a2, a3, a4] w R :=
  callsD mixed mo3 lv3 Tryz.func3 rfl (Nat.le_of_ble_eq_true rfl) ok3 ((congrFun (eq3 a0 a1 a2 a3 a4 _ _) w).mpr h)
theorem en3 (args : Array Value) (w : World) : (callFunc 3 args).run P w = .ok (.enter 3 args) w := by kernel_rfl

/-! ### evenhand / evenhandlaw19.shown -/
def S4 (ret : Value → C) (pn : Pn) : C :=
 callS P 13 #[] (fun x19_1 =>
 nextS P (V (Instr.buildSlice 56 1 #[(0, (Value.bool true))])) (fun x20_2 =>
 nextS P (V (Instr.buildSlice 25 2 #[(0, (Value.slice none 0 0)), (1, x20_2)])) (fun x21_3 =>
 nextS P (V (Instr.buildSlice 26 5 #[(0, (Value.int IntKind.i64 0)), (1, (Value.int IntKind.i64 2)), (2, (Value.int IntKind.i64 0)), (3, (Value.int IntKind.i64 9)), (4, (Value.int IntKind.i64 3))])) (fun x22_4 =>
 callS P 6 #[x19_1, x21_3, (Value.int IntKind.i64 2), x22_4] (fun x23_5 =>
 nextS P (binN .eql 30 (Operand.tmp 24) (Operand.const (Value.pointer none)) x23_5 (Value.pointer none)) (fun x25_6 =>
 condS x25_6
 (ret (Value.bool false))
 (nextS P (V (Instr.buildSlice 26 1 #[(0, (Value.int IntKind.i64 5))])) (fun x28_7 =>
 callS P 9 #[x23_5, (Value.int IntKind.i64 1), x28_7] (fun x29_8 =>
 nextS P (V (Instr.extract x29_8 0)) (fun x30_9 =>
 nextS P (V (Instr.extract x29_8 1)) (fun x31_10 =>
 nextS P (V (Instr.extract x29_8 2)) (fun x32_11 =>
 nextS P (V (Instr.buildSlice 26 1 #[(0, (Value.int IntKind.i64 5))])) (fun x35_12 =>
 callS P 9 #[x23_5, (Value.int IntKind.i64 1), x35_12] (fun x36_13 =>
 nextS P (V (Instr.extract x36_13 0)) (fun x37_14 =>
 nextS P (V (Instr.extract x36_13 1)) (fun x38_15 =>
 nextS P (V (Instr.extract x36_13 2)) (fun x39_16 =>
 nextS P (V (Instr.buildSlice 26 1 #[(0, (Value.int IntKind.i64 6))])) (fun x42_17 =>
 callS P 9 #[x23_5, (Value.int IntKind.i64 1), x42_17] (fun x43_18 =>
 nextS P (V (Instr.extract x43_18 0)) (fun x44_19 =>
 nextS P (V (Instr.extract x43_18 1)) (fun x45_20 =>
 nextS P (V (Instr.extract x43_18 2)) (fun x46_21 =>
 nextS P (V (Instr.buildSlice 26 1 #[(0, (Value.int IntKind.i64 5))])) (fun x49_22 =>
 callS P 9 #[x23_5, (Value.int IntKind.i64 1), x49_22] (fun x50_23 =>
 nextS P (V (Instr.extract x50_23 0)) (fun x51_24 =>
 nextS P (V (Instr.extract x50_23 1)) (fun x52_25 =>
 nextS P (V (Instr.extract x50_23 2)) (fun x53_26 =>
 nextS P (V (Instr.buildSlice 26 1 #[(0, (Value.int IntKind.i64 5))])) (fun x56_27 =>
 callS P 9 #[x23_5, (Value.int IntKind.i64 1), x56_27] (fun x57_28 =>
 nextS P (V (Instr.extract x57_28 0)) (fun x58_29 =>
 nextS P (V (Instr.extract x57_28 1)) (fun x59_30 =>
 nextS P (V (Instr.extract x57_28 2)) (fun x60_31 =>
 callS P 12 #[x23_5] (fun x62_32 =>
 nextS P (bltN .len #[36] 3 #[false] #[x30_9]) (fun x64_33 =>
 nextS P (binN .eql 3 (Operand.tmp 64) (Operand.const (Value.int IntKind.i64 0)) x64_33 (Value.int IntKind.i64 0)) (fun x65_34 =>
 grdS x65_34 true (fun K => K x31_10) fun x67_35 =>
 grdS x65_34 true (fun K => nextS P (V (Op.unary .not x67_35)) K pn) fun x68_36 =>
 nextS P (pickN x65_34 x68_36 (Value.bool false)) (fun x69_37 =>
 grdS x69_37 true (fun K => K x32_11) fun x71_38 =>
 grdS x69_37 true (fun K => nextS P (binN .eql 2 (Operand.tmp 71) (Operand.const (Value.int IntKind.i64 0)) x71_38 (Value.int IntKind.i64 0)) K pn) fun x72_39 =>
 nextS P (pickN x69_37 x72_39 (Value.bool false)) (fun x73_40 =>
 grdS x73_40 true (fun K => K x37_14) fun x75_41 =>
 grdS x73_40 true (fun K => callS P 14 #[x75_41] K pn) fun x76_42 =>
 grdS x73_40 true (fun K => nextS P (binN .eql 9 (Operand.tmp 76) (Operand.const (Value.string { data := #[48, 32, 112, 117, 115, 104, 32, 49, 53, 10, 49, 32, 114, 101, 116, 117, 114, 110, 10] })) x76_42 (Value.string { data := #[48, 32, 112, 117, 115, 104, 32, 49, 53, 10, 49, 32, 114, 101, 116, 117, 114, 110, 10] })) K pn) fun x77_43 =>
 nextS P (pickN x73_40 x77_43 (Value.bool false)) (fun x78_44 =>
 grdS x78_44 true (fun K => K x38_15) fun x80_45 =>
 nextS P (pickN x78_44 x80_45 (Value.bool false)) (fun x81_46 =>
 grdS x81_46 true (fun K => K x39_16) fun x83_47 =>
 grdS x81_46 true (fun K => nextS P (binN .eql 2 (Operand.tmp 83) (Operand.const (Value.int IntKind.i64 8)) x83_47 (Value.int IntKind.i64 8)) K pn) fun x84_48 =>
 nextS P (pickN x81_46 x84_48 (Value.bool false)) (fun x85_49 =>
 grdS x85_49 true (fun K => K x44_19) fun x87_50 =>
 grdS x85_49 true (fun K => nextS P (bltN .len #[36] 3 #[false] #[x87_50]) K pn) fun x88_51 =>
 grdS x85_49 true (fun K => nextS P (binN .eql 3 (Operand.tmp 88) (Operand.const (Value.int IntKind.i64 0)) x88_51 (Value.int IntKind.i64 0)) K pn) fun x89_52 =>
 nextS P (pickN x85_49 x89_52 (Value.bool false)) (fun x90_53 =>
 grdS x90_53 true (fun K => K x45_20) fun x92_54 =>
 grdS x90_53 true (fun K => nextS P (V (Op.unary .not x92_54)) K pn) fun x93_55 =>
 nextS P (pickN x90_53 x93_55 (Value.bool false)) (fun x94_56 =>
 grdS x94_56 true (fun K => K x46_21) fun x96_57 =>
 grdS x94_56 true (fun K => nextS P (binN .eql 2 (Operand.tmp 96) (Operand.const (Value.int IntKind.i64 50)) x96_57 (Value.int IntKind.i64 50)) K pn) fun x97_58 =>
 nextS P (pickN x94_56 x97_58 (Value.bool false)) (fun x98_59 =>
 grdS x98_59 true (fun K => K x51_24) fun x100_60 =>
 grdS x98_59 true (fun K => nextS P (bltN .len #[36] 3 #[false] #[x100_60]) K pn) fun x101_61 =>
 grdS x98_59 true (fun K => nextS P (binN .eql 3 (Operand.tmp 101) (Operand.const (Value.int IntKind.i64 2)) x101_61 (Value.int IntKind.i64 2)) K pn) fun x102_62 =>
 nextS P (pickN x98_59 x102_62 (Value.bool false)) (fun x103_63 =>
 grdS x103_63 true (fun K => K x52_25) fun x105_64 =>
 nextS P (pickN x103_63 x105_64 (Value.bool false)) (fun x106_65 =>
 grdS x106_65 true (fun K => K x53_26) fun x108_66 =>
 grdS x106_65 true (fun K => nextS P (binN .eql 2 (Operand.tmp 108) (Operand.const (Value.int IntKind.i64 0)) x108_66 (Value.int IntKind.i64 0)) K pn) fun x109_67 =>
 nextS P (pickN x106_65 x109_67 (Value.bool false)) (fun x110_68 =>
 grdS x110_68 true (fun K => K x58_29) fun x112_69 =>
 grdS x110_68 true (fun K => nextS P (bltN .len #[36] 3 #[false] #[x112_69]) K pn) fun x113_70 =>
 grdS x110_68 true (fun K => nextS P (binN .eql 3 (Operand.tmp 113) (Operand.const (Value.int IntKind.i64 0)) x113_70 (Value.int IntKind.i64 0)) K pn) fun x114_71 =>
 nextS P (pickN x110_68 x114_71 (Value.bool false)) (fun x115_72 =>
 grdS x115_72 true (fun K => K x59_30) fun x117_73 =>
 grdS x115_72 true (fun K => nextS P (V (Op.unary .not x117_73)) K pn) fun x118_74 =>
 nextS P (pickN x115_72 x118_74 (Value.bool false)) (fun x119_75 =>
 grdS x119_75 true (fun K => K x60_31) fun x121_76 =>
 grdS x119_75 true (fun K => nextS P (binN .eql 2 (Operand.tmp 121) (Operand.const (Value.int IntKind.i64 0)) x121_76 (Value.int IntKind.i64 0)) K pn) fun x122_77 =>
 nextS P (pickN x119_75 x122_77 (Value.bool false)) (fun x123_78 =>
 grdS x123_78 true (fun K => K x62_32) fun x126_79 =>
 grdS x123_78 true (fun K => nextS P (bltN .len #[45] 3 #[false] #[x126_79]) K pn) fun x127_80 =>
 grdS x123_78 true (fun K => nextS P (binN .eql 3 (Operand.tmp 127) (Operand.const (Value.int IntKind.i64 5)) x127_80 (Value.int IntKind.i64 5)) K pn) fun x128_81 =>
 nextS P (pickN x123_78 x128_81 (Value.bool false)) (fun x129_82 =>
 grdS x129_82 true (fun K => K x62_32) fun x131_83 =>
 grdS x129_82 true (fun K => nextS P (V (Instr.indexAt 45 x131_83 (Value.int IntKind.i64 0))) K pn) fun x132_84 =>
 grdS x129_82 true (fun K => nextS P (V (Instr.loadAt 52 x132_84)) K pn) fun x133_85 =>
 grdS x129_82 true (fun K => nextS P (V (Instr.build 52 #[(0, (Value.int IntKind.i64 1)), (1, (Value.int IntKind.i64 1))])) K pn) fun x134_86 =>
 grdS x129_82 true (fun K => nextS P (binN .eql 52 (Operand.tmp 133) (Operand.tmp 134) x133_85 x134_86) K pn) fun x135_87 =>
 nextS P (pickN x129_82 x135_87 (Value.bool false)) (fun x136_88 =>
 grdS x136_88 true (fun K => K x62_32) fun x138_89 =>
 grdS x136_88 true (fun K => nextS P (V (Instr.indexAt 45 x138_89 (Value.int IntKind.i64 1))) K pn) fun x139_90 =>
 grdS x136_88 true (fun K => nextS P (V (Instr.fieldAt 52 x139_90 0)) K pn) fun x140_91 =>
 grdS x136_88 true (fun K => nextS P (V (Instr.loadAt 3 x140_91)) K pn) fun x141_92 =>
 grdS x136_88 true (fun K => nextS P (binN .eql 3 (Operand.tmp 141) (Operand.const (Value.int IntKind.i64 2)) x141_92 (Value.int IntKind.i64 2)) K pn) fun x142_93 =>
 nextS P (pickN x136_88 x142_93 (Value.bool false)) (fun x143_94 =>
 grdS x143_94 true (fun K => K x62_32) fun x145_95 =>
 grdS x143_94 true (fun K => nextS P (V (Instr.indexAt 45 x145_95 (Value.int IntKind.i64 2))) K pn) fun x146_96 =>
 grdS x143_94 true (fun K => nextS P (V (Instr.fieldAt 52 x146_96 0)) K pn) fun x147_97 =>
 grdS x143_94 true (fun K => nextS P (V (Instr.loadAt 3 x147_97)) K pn) fun x148_98 =>
 grdS x143_94 true (fun K => nextS P (binN .eql 3 (Operand.tmp 148) (Operand.const (Value.int IntKind.i64 3)) x148_98 (Value.int IntKind.i64 3)) K pn) fun x149_99 =>
 nextS P (pickN x143_94 x149_99 (Value.bool false)) (fun x150_100 =>
 grdS x150_100 true (fun K => K x62_32) fun x152_101 =>
 grdS x150_100 true (fun K => nextS P (V (Instr.indexAt 45 x152_101 (Value.int IntKind.i64 3))) K pn) fun x153_102 =>
 grdS x150_100 true (fun K => nextS P (V (Instr.fieldAt 52 x153_102 0)) K pn) fun x154_103 =>
 grdS x150_100 true (fun K => nextS P (V (Instr.loadAt 3 x154_103)) K pn) fun x155_104 =>
 grdS x150_100 true (fun K => nextS P (binN .eql 3 (Operand.tmp 155) (Operand.const (Value.int IntKind.i64 2)) x155_104 (Value.int IntKind.i64 2)) K pn) fun x156_105 =>
 nextS P (pickN x150_100 x156_105 (Value.bool false)) (fun x157_106 =>
 grdS x157_106 true (fun K => K x62_32) fun x159_107 =>
 grdS x157_106 true (fun K => nextS P (V (Instr.indexAt 45 x159_107 (Value.int IntKind.i64 4))) K pn) fun x160_108 =>
 grdS x157_106 true (fun K => nextS P (V (Instr.fieldAt 52 x160_108 0)) K pn) fun x161_109 =>
 grdS x157_106 true (fun K => nextS P (V (Instr.loadAt 3 x161_109)) K pn) fun x162_110 =>
 grdS x157_106 true (fun K => nextS P (binN .eql 3 (Operand.tmp 162) (Operand.const (Value.int IntKind.i64 4)) x162_110 (Value.int IntKind.i64 4)) K pn) fun x163_111 =>
 nextS P (pickN x157_106 x163_111 (Value.bool false)) (fun x164_112 =>
 nextS P (pickN x164_112 (Value.bool true) (Value.bool false)) (fun x166_113 =>
 ret x166_113) pn) pn) pn) pn) pn) pn) pn) pn) pn) pn) pn) pn) pn) pn) pn) pn) pn) pn) pn) pn) pn) pn) pn) pn) pn) pn) pn) pn) pn) pn) pn) pn) pn) pn) pn) pn) pn) pn) pn) pn) pn) pn) pn) pn) pn) pn) pn) pn) pn)) pn) pn) pn) pn) pn) pn
def mo4 : Nat → Mo := fun _ => .done
def lv4 : Nat → List Nat := fun _ => []
theorem ok4 : okC Tryz.f4.ntmps mo4 (Tryz.f4.body.getD .skip) = true := by kernel_rfl
theorem eq4 (ret : Value → C) (pn : Pn) : D P mo4 lv4 pn (Tryz.f4.body.getD .skip) (finQ P Tryz.f4.results ret) (env0 []) = S4 ret pn := by kernel_rfl
theorem c4 {R : Ending → World → Prop} {w : World} (h : S4 (fun v w => R (.returned v) w) (fun c w => R (.panicked c) w) w) : Calls P 4 #[] w R :=
  callsD mixed mo4 lv4 Tryz.func4 rfl (Nat.le_of_ble_eq_true rfl) ok4 ((congrFun (eq4  _ _) w).mpr h)
theorem en4 (args : Array Value) (w : World) : (callFunc 4 args).run P w = .ok (.enter 4 args) w := by kernel_rfl

/-! ### evenhand / evenhandlaw19.few -/
def S5_l1 (nx1 : List Value → C) (ret : Value → C) (pn : Pn) (e : Env) : C :=
 nextS P (V (Instr.fieldAt 24 (e 1) 0)) (fun x8_6 =>
 nextS P (V (Instr.loadAt 22 x8_6)) (fun x9_7 =>
 nextS P (bltN .len #[22] 3 #[false] #[x9_7]) (fun x10_8 =>
 nextS P (binN .lss 3 (Operand.tmp 7) (Operand.tmp 10) (e 4) x10_8) (fun x11_9 =>
 grdS x11_9 true (fun K => K (e 4)) fun x13_10 =>
 grdS x11_9 true (fun K => nextS P (binN .lss 3 (Operand.tmp 13) (Operand.const (Value.int IntKind.i64 5)) x13_10 (Value.int IntKind.i64 5)) K pn) fun x14_11 =>
 nextS P (pickN x11_9 x14_11 (Value.bool false)) (fun x15_12 =>
 condS x15_12
 (nextS P (V (Instr.fieldAt 24 (e 1) 0)) (fun x18_13 =>
 nextS P (V (Instr.loadAt 22 x18_13)) (fun x19_14 =>
 nextS P (V (Instr.indexAt 22 x19_14 (e 4))) (fun x21_15 =>
 nextS P (V (Instr.loadAt 59 x21_15)) (fun x22_16 =>
 nextS P (V (Instr.alloc 59 true (.tuple #[]))) (fun x5_17 =>
 nextS P (U (Instr.storeAt 59 x5_17 x22_16)) (fun _ =>
 nextS P (V (Instr.fieldAt 59 x5_17 4)) (fun x23_19 =>
 nextS P (V (Instr.loadAt 36 x23_19)) (fun x24_20 =>
 nextS P (V (Instr.fieldAt 59 x5_17 4)) (fun x25_21 =>
 nextS P (V (Instr.loadAt 36 x25_21)) (fun x26_22 =>
 nextS P (bltN .len #[36] 3 #[false] #[x26_22]) (fun x27_23 =>
 nextS P (bltN .min #[3, 3] 3 #[false, true] #[x27_23, (Value.int IntKind.i64 60)]) (fun x28_24 =>
 nextS P (V (Instr.sliceAt 36 x24_20 none (some x28_24) none)) (fun x29_25 =>
 nextS P (V (Instr.fieldAt 59 x5_17 4)) (fun x30_26 =>
 nextS P (U (Instr.storeAt 36 x30_26 x29_25)) (fun _ =>
 nextS P (V (Instr.fieldAt 59 x5_17 1)) (fun x31_28 =>
 nextS P (V (Instr.loadAt 3 x31_28)) (fun x32_29 =>
 nextS P (bltN .max #[3, 3] 3 #[false, true] #[x32_29, (Value.int IntKind.i64 0)]) (fun x33_30 =>
 nextS P (bltN .min #[3, 3] 3 #[false, true] #[x33_30, (Value.int IntKind.i64 8)]) (fun x34_31 =>
 nextS P (V (Instr.fieldAt 59 x5_17 1)) (fun x35_32 =>
 nextS P (U (Instr.storeAt 3 x35_32 x34_31)) (fun _ =>
 nextS P (V (Instr.fieldAt 24 (e 3) 0)) (fun x36_34 =>
 nextS P (V (Instr.loadAt 22 x36_34)) (fun x37_35 =>
 nextS P (V (Instr.loadAt 59 x5_17)) (fun x38_36 =>
 nextS P (V (Instr.buildSlice 22 1 #[(0, x38_36)])) (fun x39_37 =>
 nextS P (bltN .append #[22, 22] 22 #[false, false] #[x37_35, x39_37]) (fun x40_38 =>
 nextS P (V (Instr.fieldAt 24 (e 3) 0)) (fun x41_39 =>
 nextS P (U (Instr.storeAt 22 x41_39 x40_38)) (fun _ =>
 nextS P (binN .add 3 (Operand.tmp 16) (Operand.const (Value.int IntKind.i64 1)) (e 4) (Value.int IntKind.i64 1)) (fun x17_41 =>
 nx1 [(e 1), (e 2), (e 3), x17_41]) pn) pn) pn) pn) pn) pn) pn) pn) pn) pn) pn) pn) pn) pn) pn) pn) pn) pn) pn) pn) pn) pn) pn) pn) pn) pn) pn) pn) pn)
 (nextS P (V (Instr.loadAt 24 (e 3))) (fun x42_42 =>
 nextS P (U (Instr.storeAt 24 (e 2) x42_42)) (fun _ =>
 cellS P 24 (e 2) ret) pn) pn)) pn) pn) pn) pn) pn
def S5 (a0 : Value) (ret : Value → C) (pn : Pn) : C :=
 nextS P (V (Instr.box 24 a0)) (fun x1_1 =>
 nextS P (V (Instr.alloc 24 true (.tuple #[]))) (fun x2_2 =>
 nextS P (V (Instr.build 24 #[])) (fun x6_3 =>
 nextS P (V (Instr.alloc 24 true (.tuple #[]))) (fun x3_4 =>
 nextS P (U (Instr.storeAt 24 x3_4 x6_3)) (fun _ =>
 LoopS [x1_1, x2_2, x3_4, (Value.int IntKind.i64 0)] [1, 2, 3, 4] fun nx1 e => S5_l1 nx1 ret pn e) pn) pn) pn) pn) pn
def mo5 : Nat → Mo := fun _ => .done
def lv5 : Nat → List Nat
  | 3 => [1, 2, 3, 4]
  | _ => []
theorem ok5 : okC Tryz.f5.ntmps mo5 (Tryz.f5.body.getD .skip) = true := by kernel_rfl
theorem eq5 (a0 : Value) (ret : Value → C) (pn : Pn) : D P mo5 lv5 pn (Tryz.f5.body.getD .skip) (finQ P Tryz.f5.results ret) (env0 [a0]) = S5 a0 ret pn := by kernel_rfl
theorem c5 {a0 : Value} {R : Ending → World → Prop} {w : World} (h : S5 a0 (fun v w => R (.returned v) w) (fun c w => R (.panicked c) w) w) : Calls P 5 #[a0] w R :=
  callsD mixed mo5 lv5 Tryz.func5 rfl (Nat.le_of_ble_eq_true rfl) ok5 ((congrFun (eq5 a0 _ _) w).mpr h)
theorem en5 (args : Array Value) (w : World) : (callFunc 5 args).run P w = .ok (.enter 5 args) w := by kernel_rfl

/-! ### evenhand / tier.New -/
def S6_l4 (nx4 : List Value → C) (ret : Value → C) (pn : Pn) (e : Env) : C :=
 nextS P (binN .lss 3 (Operand.tmp 84) (Operand.tmp 83) (e 84) (e 83)) (fun x85_82 =>
 condS x85_82
 (nextS P (V (Instr.indexAt 22 (e 82) (e 84))) (fun x86_83 =>
 nextS P (V (Instr.loadAt 59 x86_83)) (fun x87_84 =>
 nextS P (V (Instr.alloc 59 true (.tuple #[]))) (fun x18_85 =>
 nextS P (U (Instr.storeAt 59 x18_85 x87_84)) (fun _ =>
 nextS P (V (Instr.fieldAt 59 x18_85 1)) (fun x89_87 =>
 nextS P (V (Instr.loadAt 3 x89_87)) (fun x90_88 =>
 nextS P (V (Instr.buildSlice 71 1 #[(0, x90_88)])) (fun x91_89 =>
 nextS P (bltN .append #[71, 71] 71 #[false, false] #[(e 16), x91_89]) (fun x92_90 =>
 nextS P (binN .add 3 (Operand.tmp 84) (Operand.const (Value.int IntKind.i64 1)) (e 84) (Value.int IntKind.i64 1)) (fun x93_91 =>
 nx4 [(e 9), x92_90, (e 82), (e 83), x93_91]) pn) pn) pn) pn) pn) pn) pn) pn) pn)
 (callS P 18 #[(e 16)] (fun x96_92 =>
 nextS P (nilN (e 9)) (fun x97_93 =>
 nextS P (V (Instr.fieldAt 66 x97_93 4)) (fun x98_94 =>
 nextS P (U (Instr.storeAt 64 x98_94 x96_92)) (fun _ =>
 ret (e 9)) pn) pn) pn) pn)) pn
def S6_l3 (nx3 : List Value → C) (ret : Value → C) (pn : Pn) (e : Env) : C :=
 nextS P (binN .lss 3 (Operand.tmp 71) (Operand.tmp 70) (e 71) (e 70)) (fun x72_71 =>
 condS x72_71
 (nextS P (V (Instr.indexAt 26 (e 69) (e 71))) (fun x73_72 =>
 nextS P (V (Instr.loadAt 2 x73_72)) (fun x74_73 =>
 nextS P (nilN (e 9)) (fun x76_74 =>
 nextS P (V (Instr.fieldAt 66 x76_74 3)) (fun x77_75 =>
 nextS P (V (Instr.loadAt 62 x77_75)) (fun x78_76 =>
 commS P (sendN x78_76 x74_73) fun _ =>
 nextS P (binN .add 3 (Operand.tmp 71) (Operand.const (Value.int IntKind.i64 1)) (e 71) (Value.int IntKind.i64 1)) (fun x80_78 =>
 nx3 [(e 4), (e 9), (e 69), (e 70), x80_78]) pn) pn) pn) pn) pn) pn)
 (nextS P (V (Instr.fieldAt 24 (e 4) 0)) (fun x81_79 =>
 nextS P (V (Instr.loadAt 22 x81_79)) (fun x82_80 =>
 nextS P (bltN .len #[22] 3 #[false] #[x82_80]) (fun x83_81 =>
 LoopS [(e 9), (Value.slice none 0 0), x82_80, x83_81, (Value.int IntKind.i64 0)] [9, 16, 82, 83, 84] fun nx4 e => S6_l4 nx4 ret pn e) pn) pn) pn)) pn
def S6_l2 (nx2 : List Value → C) (ret : Value → C) (pn : Pn) (e : Env) : C :=
 nextS P (binN .lss 3 (Operand.tmp 53) (Operand.tmp 52) (e 53) (e 52)) (fun x54_42 =>
 condS x54_42
 (nextS P (V (Instr.indexAt 25 (e 51) (e 53))) (fun x55_43 =>
 nextS P (V (Instr.loadAt 56 x55_43)) (fun x56_44 =>
 DrawS fun S =>
 pureS P (nilN (e 9)) fun x59_45 =>
 pureS P (V (Instr.fieldAt 66 x59_45 2)) fun x60_46 =>
 fun w => (nextS P (V (Instr.loadAt 25 x60_46)) (fun x61_47 w => S w ∧ (callS P 17 #[x56_44] (fun x63_48 w => S w ∧ (nextS P (V (Instr.buildSlice 25 1 #[(0, x63_48)])) (fun x64_49 w => S w ∧ (nextS P (bltN .append #[25, 25] 25 #[false, false] #[x61_47, x64_49]) (fun x65_50 w => S w ∧ (pureS P (nilN (e 9)) fun x66_51 =>
 pureS P (V (Instr.fieldAt 66 x66_51 2)) fun x67_52 =>
 nextS P (U (Instr.storeAt 25 x67_52 x65_50)) (fun _ w => S w ∧ (nextS P (binN .add 3 (Operand.tmp 53) (Operand.const (Value.int IntKind.i64 1)) (e 53) (Value.int IntKind.i64 1)) (fun x68_54 =>
 nx2 [(e 3), (e 4), (e 9), (e 51), (e 52), x68_54]) pn) w) pn) w) pn) w) pn) w) pn) w) pn) w ∧ (callS P 17 #[x56_44] (fun x63_55 w => S w ∧ (fun w => (nextS P (V (Instr.loadAt 25 x60_46)) (fun x61_56 w => S w ∧ (nextS P (V (Instr.buildSlice 25 1 #[(0, x63_55)])) (fun x64_57 w => S w ∧ (nextS P (bltN .append #[25, 25] 25 #[false, false] #[x61_56, x64_57]) (fun x65_58 w => S w ∧ (pureS P (nilN (e 9)) fun x66_59 =>
 pureS P (V (Instr.fieldAt 66 x66_59 2)) fun x67_60 =>
 nextS P (U (Instr.storeAt 25 x67_60 x65_58)) (fun _ w => S w ∧ (nextS P (binN .add 3 (Operand.tmp 53) (Operand.const (Value.int IntKind.i64 1)) (e 53) (Value.int IntKind.i64 1)) (fun x68_62 =>
 nx2 [(e 3), (e 4), (e 9), (e 51), (e 52), x68_62]) pn) w) pn) w) pn) w) pn) w) pn) w ∧ (nextS P (V (Instr.buildSlice 25 1 #[(0, x63_55)])) (fun x64_63 w => S w ∧ (nextS P (V (Instr.loadAt 25 x60_46)) (fun x61_64 w => S w ∧ (nextS P (bltN .append #[25, 25] 25 #[false, false] #[x61_64, x64_63]) (fun x65_65 w => S w ∧ (pureS P (nilN (e 9)) fun x66_66 =>
 pureS P (V (Instr.fieldAt 66 x66_66 2)) fun x67_67 =>
 nextS P (U (Instr.storeAt 25 x67_67 x65_65)) (fun _ w => S w ∧ (nextS P (binN .add 3 (Operand.tmp 53) (Operand.const (Value.int IntKind.i64 1)) (e 53) (Value.int IntKind.i64 1)) (fun x68_69 =>
 nx2 [(e 3), (e 4), (e 9), (e 51), (e 52), x68_69]) pn) w) pn) w) pn) w) pn) w) pn) w) w) pn) w) pn) pn)
 (nextS P (bltN .len #[26] 3 #[false] #[(e 3)]) (fun x70_70 =>
 LoopS [(e 4), (e 9), (e 3), x70_70, (Value.int IntKind.i64 0)] [4, 9, 69, 70, 71] fun nx3 e => S6_l3 nx3 ret pn e) pn)) pn
def S6_l1 (nx1 : List Value → C) (ret : Value → C) (pn : Pn) (e : Env) : C :=
 nextS P (binN .lss 3 (Operand.tmp 30) (Operand.tmp 29) (e 30) (e 29)) (fun x31_11 =>
 condS x31_11
 (nextS P (V (Instr.indexAt 22 (e 28) (e 30))) (fun x32_12 =>
 nextS P (V (Instr.loadAt 59 x32_12)) (fun x33_13 =>
 nextS P (V (Instr.alloc 59 true (.tuple #[]))) (fun x11_14 =>
 nextS P (U (Instr.storeAt 59 x11_14 x33_13)) (fun _ =>
 nextS P (V (Instr.fieldAt 59 x11_14 4)) (fun x34_16 =>
 nextS P (V (Instr.loadAt 36 x34_16)) (fun x35_17 =>
 callS P 16 #[x35_17] (fun x36_18 =>
 nextS P (V (Instr.fieldAt 59 x11_14 4)) (fun x37_19 =>
 nextS P (U (Instr.storeAt 36 x37_19 x36_18)) (fun _ =>
 DrawS fun S =>
 pureS P (nilN (e 9)) fun x40_21 =>
 pureS P (V (Instr.fieldAt 66 x40_21 1)) fun x41_22 =>
 pureS P (V (Instr.fieldAt 24 x41_22 0)) fun x42_23 =>
 takeS S P (V (Instr.loadAt 59 x11_14)) fun x44_24 =>
 fun w => (nextS P (V (Instr.loadAt 22 x42_23)) (fun x43_25 w => S w ∧ (nextS P (V (Instr.buildSlice 22 1 #[(0, x44_24)])) (fun x45_26 w => S w ∧ (nextS P (bltN .append #[22, 22] 22 #[false, false] #[x43_25, x45_26]) (fun x46_27 w => S w ∧ (pureS P (nilN (e 9)) fun x47_28 =>
 pureS P (V (Instr.fieldAt 66 x47_28 1)) fun x48_29 =>
 pureS P (V (Instr.fieldAt 24 x48_29 0)) fun x49_30 =>
 nextS P (U (Instr.storeAt 22 x49_30 x46_27)) (fun _ w => S w ∧ (nextS P (binN .add 3 (Operand.tmp 30) (Operand.const (Value.int IntKind.i64 1)) (e 30) (Value.int IntKind.i64 1)) (fun x50_32 =>
 nx1 [(e 1), (e 3), (e 4), (e 9), (e 28), (e 29), x50_32]) pn) w) pn) w) pn) w) pn) w) pn) w ∧ (nextS P (V (Instr.buildSlice 22 1 #[(0, x44_24)])) (fun x45_33 w => S w ∧ (nextS P (V (Instr.loadAt 22 x42_23)) (fun x43_34 w => S w ∧ (nextS P (bltN .append #[22, 22] 22 #[false, false] #[x43_34, x45_33]) (fun x46_35 w => S w ∧ (pureS P (nilN (e 9)) fun x47_36 =>
 pureS P (V (Instr.fieldAt 66 x47_36 1)) fun x48_37 =>
 pureS P (V (Instr.fieldAt 24 x48_37 0)) fun x49_38 =>
 nextS P (U (Instr.storeAt 22 x49_38 x46_35)) (fun _ w => S w ∧ (nextS P (binN .add 3 (Operand.tmp 30) (Operand.const (Value.int IntKind.i64 1)) (e 30) (Value.int IntKind.i64 1)) (fun x50_40 =>
 nx1 [(e 1), (e 3), (e 4), (e 9), (e 28), (e 29), x50_40]) pn) w) pn) w) pn) w) pn) w) pn) w) pn) pn) pn) pn) pn) pn) pn) pn) pn)
 (nextS P (bltN .len #[25] 3 #[false] #[(e 1)]) (fun x52_41 =>
 LoopS [(e 3), (e 4), (e 9), (e 1), x52_41, (Value.int IntKind.i64 0)] [3, 4, 9, 51, 52, 53] fun nx2 e => S6_l2 nx2 ret pn e) pn)) pn
def S6_l8 (nx8 : List Value → C) (ret : Value → C) (pn : Pn) (e : Env) : C :=
 nextS P (binN .lss 3 (Operand.tmp 84) (Operand.tmp 83) (e 84) (e 83)) (fun x85_174 =>
 condS x85_174
 (nextS P (V (Instr.indexAt 22 (e 82) (e 84))) (fun x86_175 =>
 nextS P (V (Instr.loadAt 59 x86_175)) (fun x87_176 =>
 nextS P (V (Instr.alloc 59 true (.tuple #[]))) (fun x18_177 =>
 nextS P (U (Instr.storeAt 59 x18_177 x87_176)) (fun _ =>
 nextS P (V (Instr.fieldAt 59 x18_177 1)) (fun x89_179 =>
 nextS P (V (Instr.loadAt 3 x89_179)) (fun x90_180 =>
 nextS P (V (Instr.buildSlice 71 1 #[(0, x90_180)])) (fun x91_181 =>
 nextS P (bltN .append #[71, 71] 71 #[false, false] #[(e 16), x91_181]) (fun x92_182 =>
 nextS P (binN .add 3 (Operand.tmp 84) (Operand.const (Value.int IntKind.i64 1)) (e 84) (Value.int IntKind.i64 1)) (fun x93_183 =>
 nx8 [(e 9), x92_182, (e 82), (e 83), x93_183]) pn) pn) pn) pn) pn) pn) pn) pn) pn)
 (callS P 18 #[(e 16)] (fun x96_184 =>
 nextS P (nilN (e 9)) (fun x97_185 =>
 nextS P (V (Instr.fieldAt 66 x97_185 4)) (fun x98_186 =>
 nextS P (U (Instr.storeAt 64 x98_186 x96_184)) (fun _ =>
 ret (e 9)) pn) pn) pn) pn)) pn
def S6_l7 (nx7 : List Value → C) (ret : Value → C) (pn : Pn) (e : Env) : C :=
 nextS P (binN .lss 3 (Operand.tmp 71) (Operand.tmp 70) (e 71) (e 70)) (fun x72_163 =>
 condS x72_163
 (nextS P (V (Instr.indexAt 26 (e 69) (e 71))) (fun x73_164 =>
 nextS P (V (Instr.loadAt 2 x73_164)) (fun x74_165 =>
 nextS P (nilN (e 9)) (fun x76_166 =>
 nextS P (V (Instr.fieldAt 66 x76_166 3)) (fun x77_167 =>
 nextS P (V (Instr.loadAt 62 x77_167)) (fun x78_168 =>
 commS P (sendN x78_168 x74_165) fun _ =>
 nextS P (binN .add 3 (Operand.tmp 71) (Operand.const (Value.int IntKind.i64 1)) (e 71) (Value.int IntKind.i64 1)) (fun x80_170 =>
 nx7 [(e 4), (e 9), (e 69), (e 70), x80_170]) pn) pn) pn) pn) pn) pn)
 (nextS P (V (Instr.fieldAt 24 (e 4) 0)) (fun x81_171 =>
 nextS P (V (Instr.loadAt 22 x81_171)) (fun x82_172 =>
 nextS P (bltN .len #[22] 3 #[false] #[x82_172]) (fun x83_173 =>
 LoopS [(e 9), (Value.slice none 0 0), x82_172, x83_173, (Value.int IntKind.i64 0)] [9, 16, 82, 83, 84] fun nx8 e => S6_l8 nx8 ret pn e) pn) pn) pn)) pn
def S6_l6 (nx6 : List Value → C) (ret : Value → C) (pn : Pn) (e : Env) : C :=
 nextS P (binN .lss 3 (Operand.tmp 53) (Operand.tmp 52) (e 53) (e 52)) (fun x54_134 =>
 condS x54_134
 (nextS P (V (Instr.indexAt 25 (e 51) (e 53))) (fun x55_135 =>
 nextS P (V (Instr.loadAt 56 x55_135)) (fun x56_136 =>
 DrawS fun S =>
 pureS P (nilN (e 9)) fun x59_137 =>
 pureS P (V (Instr.fieldAt 66 x59_137 2)) fun x60_138 =>
 fun w => (nextS P (V (Instr.loadAt 25 x60_138)) (fun x61_139 w => S w ∧ (callS P 17 #[x56_136] (fun x63_140 w => S w ∧ (nextS P (V (Instr.buildSlice 25 1 #[(0, x63_140)])) (fun x64_141 w => S w ∧ (nextS P (bltN .append #[25, 25] 25 #[false, false] #[x61_139, x64_141]) (fun x65_142 w => S w ∧ (pureS P (nilN (e 9)) fun x66_143 =>
 pureS P (V (Instr.fieldAt 66 x66_143 2)) fun x67_144 =>
 nextS P (U (Instr.storeAt 25 x67_144 x65_142)) (fun _ w => S w ∧ (nextS P (binN .add 3 (Operand.tmp 53) (Operand.const (Value.int IntKind.i64 1)) (e 53) (Value.int IntKind.i64 1)) (fun x68_146 =>
 nx6 [(e 3), (e 4), (e 9), (e 51), (e 52), x68_146]) pn) w) pn) w) pn) w) pn) w) pn) w) pn) w ∧ (callS P 17 #[x56_136] (fun x63_147 w => S w ∧ (fun w => (nextS P (V (Instr.loadAt 25 x60_138)) (fun x61_148 w => S w ∧ (nextS P (V (Instr.buildSlice 25 1 #[(0, x63_147)])) (fun x64_149 w => S w ∧ (nextS P (bltN .append #[25, 25] 25 #[false, false] #[x61_148, x64_149]) (fun x65_150 w => S w ∧ (pureS P (nilN (e 9)) fun x66_151 =>
 pureS P (V (Instr.fieldAt 66 x66_151 2)) fun x67_152 =>
 nextS P (U (Instr.storeAt 25 x67_152 x65_150)) (fun _ w => S w ∧ (nextS P (binN .add 3 (Operand.tmp 53) (Operand.const (Value.int IntKind.i64 1)) (e 53) (Value.int IntKind.i64 1)) (fun x68_154 =>
 nx6 [(e 3), (e 4), (e 9), (e 51), (e 52), x68_154]) pn) w) pn) w) pn) w) pn) w) pn) w ∧ (nextS P (V (Instr.buildSlice 25 1 #[(0, x63_147)])) (fun x64_155 w => S w ∧ (nextS P (V (Instr.loadAt 25 x60_138)) (fun x61_156 w => S w ∧ (nextS P (bltN .append #[25, 25] 25 #[false, false] #[x61_156, x64_155]) (fun x65_157 w => S w ∧ (pureS P (nilN (e 9)) fun x66_158 =>
 pureS P (V (Instr.fieldAt 66 x66_158 2)) fun x67_159 =>
 nextS P (U (Instr.storeAt 25 x67_159 x65_157)) (fun _ w => S w ∧ (nextS P (binN .add 3 (Operand.tmp 53) (Operand.const (Value.int IntKind.i64 1)) (e 53) (Value.int IntKind.i64 1)) (fun x68_161 =>
 nx6 [(e 3), (e 4), (e 9), (e 51), (e 52), x68_161]) pn) w) pn) w) pn) w) pn) w) pn) w) w) pn) w) pn) pn)
 (nextS P (bltN .len #[26] 3 #[false] #[(e 3)]) (fun x70_162 =>
 LoopS [(e 4), (e 9), (e 3), x70_162, (Value.int IntKind.i64 0)] [4, 9, 69, 70, 71] fun nx7 e => S6_l7 nx7 ret pn e) pn)) pn
def S6_l5 (nx5 : List Value → C) (ret : Value → C) (pn : Pn) (e : Env) : C :=
 nextS P (binN .lss 3 (Operand.tmp 30) (Operand.tmp 29) (e 30) (e 29)) (fun x31_103 =>
 condS x31_103
 (nextS P (V (Instr.indexAt 22 (e 28) (e 30))) (fun x32_104 =>
 nextS P (V (Instr.loadAt 59 x32_104)) (fun x33_105 =>
 nextS P (V (Instr.alloc 59 true (.tuple #[]))) (fun x11_106 =>
 nextS P (U (Instr.storeAt 59 x11_106 x33_105)) (fun _ =>
 nextS P (V (Instr.fieldAt 59 x11_106 4)) (fun x34_108 =>
 nextS P (V (Instr.loadAt 36 x34_108)) (fun x35_109 =>
 callS P 16 #[x35_109] (fun x36_110 =>
 nextS P (V (Instr.fieldAt 59 x11_106 4)) (fun x37_111 =>
 nextS P (U (Instr.storeAt 36 x37_111 x36_110)) (fun _ =>
 DrawS fun S =>
 pureS P (nilN (e 9)) fun x40_113 =>
 pureS P (V (Instr.fieldAt 66 x40_113 1)) fun x41_114 =>
 pureS P (V (Instr.fieldAt 24 x41_114 0)) fun x42_115 =>
 takeS S P (V (Instr.loadAt 59 x11_106)) fun x44_116 =>
 fun w => (nextS P (V (Instr.loadAt 22 x42_115)) (fun x43_117 w => S w ∧ (nextS P (V (Instr.buildSlice 22 1 #[(0, x44_116)])) (fun x45_118 w => S w ∧ (nextS P (bltN .append #[22, 22] 22 #[false, false] #[x43_117, x45_118]) (fun x46_119 w => S w ∧ (pureS P (nilN (e 9)) fun x47_120 =>
 pureS P (V (Instr.fieldAt 66 x47_120 1)) fun x48_121 =>
 pureS P (V (Instr.fieldAt 24 x48_121 0)) fun x49_122 =>
 nextS P (U (Instr.storeAt 22 x49_122 x46_119)) (fun _ w => S w ∧ (nextS P (binN .add 3 (Operand.tmp 30) (Operand.const (Value.int IntKind.i64 1)) (e 30) (Value.int IntKind.i64 1)) (fun x50_124 =>
 nx5 [(e 1), (e 3), (e 4), (e 9), (e 28), (e 29), x50_124]) pn) w) pn) w) pn) w) pn) w) pn) w ∧ (nextS P (V (Instr.buildSlice 22 1 #[(0, x44_116)])) (fun x45_125 w => S w ∧ (nextS P (V (Instr.loadAt 22 x42_115)) (fun x43_126 w => S w ∧ (nextS P (bltN .append #[22, 22] 22 #[false, false] #[x43_126, x45_125]) (fun x46_127 w => S w ∧ (pureS P (nilN (e 9)) fun x47_128 =>
 pureS P (V (Instr.fieldAt 66 x47_128 1)) fun x48_129 =>
 pureS P (V (Instr.fieldAt 24 x48_129 0)) fun x49_130 =>
 nextS P (U (Instr.storeAt 22 x49_130 x46_127)) (fun _ w => S w ∧ (nextS P (binN .add 3 (Operand.tmp 30) (Operand.const (Value.int IntKind.i64 1)) (e 30) (Value.int IntKind.i64 1)) (fun x50_132 =>
 nx5 [(e 1), (e 3), (e 4), (e 9), (e 28), (e 29), x50_132]) pn) w) pn) w) pn) w) pn) w) pn) w) pn) pn) pn) pn) pn) pn) pn) pn) pn)
 (nextS P (bltN .len #[25] 3 #[false] #[(e 1)]) (fun x52_133 =>
 LoopS [(e 3), (e 4), (e 9), (e 1), x52_133, (Value.int IntKind.i64 0)] [3, 4, 9, 51, 52, 53] fun nx6 e => S6_l6 nx6 ret pn e) pn)) pn
def S6_l12 (nx12 : List Value → C) (ret : Value → C) (pn : Pn) (e : Env) : C :=
 nextS P (binN .lss 3 (Operand.tmp 84) (Operand.tmp 83) (e 84) (e 83)) (fun x85_267 =>
 condS x85_267
 (nextS P (V (Instr.indexAt 22 (e 82) (e 84))) (fun x86_268 =>
 nextS P (V (Instr.loadAt 59 x86_268)) (fun x87_269 =>
 nextS P (V (Instr.alloc 59 true (.tuple #[]))) (fun x18_270 =>
 nextS P (U (Instr.storeAt 59 x18_270 x87_269)) (fun _ =>
 nextS P (V (Instr.fieldAt 59 x18_270 1)) (fun x89_272 =>
 nextS P (V (Instr.loadAt 3 x89_272)) (fun x90_273 =>
 nextS P (V (Instr.buildSlice 71 1 #[(0, x90_273)])) (fun x91_274 =>
 nextS P (bltN .append #[71, 71] 71 #[false, false] #[(e 16), x91_274]) (fun x92_275 =>
 nextS P (binN .add 3 (Operand.tmp 84) (Operand.const (Value.int IntKind.i64 1)) (e 84) (Value.int IntKind.i64 1)) (fun x93_276 =>
 nx12 [(e 9), x92_275, (e 82), (e 83), x93_276]) pn) pn) pn) pn) pn) pn) pn) pn) pn)
 (callS P 18 #[(e 16)] (fun x96_277 =>
 nextS P (nilN (e 9)) (fun x97_278 =>
 nextS P (V (Instr.fieldAt 66 x97_278 4)) (fun x98_279 =>
 nextS P (U (Instr.storeAt 64 x98_279 x96_277)) (fun _ =>
 ret (e 9)) pn) pn) pn) pn)) pn
def S6_l11 (nx11 : List Value → C) (ret : Value → C) (pn : Pn) (e : Env) : C :=
 nextS P (binN .lss 3 (Operand.tmp 71) (Operand.tmp 70) (e 71) (e 70)) (fun x72_256 =>
 condS x72_256
 (nextS P (V (Instr.indexAt 26 (e 69) (e 71))) (fun x73_257 =>
 nextS P (V (Instr.loadAt 2 x73_257)) (fun x74_258 =>
 nextS P (nilN (e 9)) (fun x76_259 =>
 nextS P (V (Instr.fieldAt 66 x76_259 3)) (fun x77_260 =>
 nextS P (V (Instr.loadAt 62 x77_260)) (fun x78_261 =>
 commS P (sendN x78_261 x74_258) fun _ =>
 nextS P (binN .add 3 (Operand.tmp 71) (Operand.const (Value.int IntKind.i64 1)) (e 71) (Value.int IntKind.i64 1)) (fun x80_263 =>
 nx11 [(e 4), (e 9), (e 69), (e 70), x80_263]) pn) pn) pn) pn) pn) pn)
 (nextS P (V (Instr.fieldAt 24 (e 4) 0)) (fun x81_264 =>
 nextS P (V (Instr.loadAt 22 x81_264)) (fun x82_265 =>
 nextS P (bltN .len #[22] 3 #[false] #[x82_265]) (fun x83_266 =>
 LoopS [(e 9), (Value.slice none 0 0), x82_265, x83_266, (Value.int IntKind.i64 0)] [9, 16, 82, 83, 84] fun nx12 e => S6_l12 nx12 ret pn e) pn) pn) pn)) pn
def S6_l10 (nx10 : List Value → C) (ret : Value → C) (pn : Pn) (e : Env) : C :=
 nextS P (binN .lss 3 (Operand.tmp 53) (Operand.tmp 52) (e 53) (e 52)) (fun x54_227 =>
 condS x54_227
 (nextS P (V (Instr.indexAt 25 (e 51) (e 53))) (fun x55_228 =>
 nextS P (V (Instr.loadAt 56 x55_228)) (fun x56_229 =>
 DrawS fun S =>
 pureS P (nilN (e 9)) fun x59_230 =>
 pureS P (V (Instr.fieldAt 66 x59_230 2)) fun x60_231 =>
 fun w => (nextS P (V (Instr.loadAt 25 x60_231)) (fun x61_232 w => S w ∧ (callS P 17 #[x56_229] (fun x63_233 w => S w ∧ (nextS P (V (Instr.buildSlice 25 1 #[(0, x63_233)])) (fun x64_234 w => S w ∧ (nextS P (bltN .append #[25, 25] 25 #[false, false] #[x61_232, x64_234]) (fun x65_235 w => S w ∧ (pureS P (nilN (e 9)) fun x66_236 =>
 pureS P (V (Instr.fieldAt 66 x66_236 2)) fun x67_237 =>
 nextS P (U (Instr.storeAt 25 x67_237 x65_235)) (fun _ w => S w ∧ (nextS P (binN .add 3 (Operand.tmp 53) (Operand.const (Value.int IntKind.i64 1)) (e 53) (Value.int IntKind.i64 1)) (fun x68_239 =>
 nx10 [(e 3), (e 4), (e 9), (e 51), (e 52), x68_239]) pn) w) pn) w) pn) w) pn) w) pn) w) pn) w ∧ (callS P 17 #[x56_229] (fun x63_240 w => S w ∧ (fun w => (nextS P (V (Instr.loadAt 25 x60_231)) (fun x61_241 w => S w ∧ (nextS P (V (Instr.buildSlice 25 1 #[(0, x63_240)])) (fun x64_242 w => S w ∧ (nextS P (bltN .append #[25, 25] 25 #[false, false] #[x61_241, x64_242]) (fun x65_243 w => S w ∧ (pureS P (nilN (e 9)) fun x66_244 =>
 pureS P (V (Instr.fieldAt 66 x66_244 2)) fun x67_245 =>
 nextS P (U (Instr.storeAt 25 x67_245 x65_243)) (fun _ w => S w ∧ (nextS P (binN .add 3 (Operand.tmp 53) (Operand.const (Value.int IntKind.i64 1)) (e 53) (Value.int IntKind.i64 1)) (fun x68_247 =>
 nx10 [(e 3), (e 4), (e 9), (e 51), (e 52), x68_247]) pn) w) pn) w) pn) w) pn) w) pn) w ∧ (nextS P (V (Instr.buildSlice 25 1 #[(0, x63_240)])) (fun x64_248 w => S w ∧ (nextS P (V (Instr.loadAt 25 x60_231)) (fun x61_249 w => S w ∧ (nextS P (bltN .append #[25, 25] 25 #[false, false] #[x61_249, x64_248]) (fun x65_250 w => S w ∧ (pureS P (nilN (e 9)) fun x66_251 =>
 pureS P (V (Instr.fieldAt 66 x66_251 2)) fun x67_252 =>
 nextS P (U (Instr.storeAt 25 x67_252 x65_250)) (fun _ w => S w ∧ (nextS P (binN .add 3 (Operand.tmp 53) (Operand.const (Value.int IntKind.i64 1)) (e 53) (Value.int IntKind.i64 1)) (fun x68_254 =>
 nx10 [(e 3), (e 4), (e 9), (e 51), (e 52), x68_254]) pn) w) pn) w) pn) w) pn) w) pn) w) w) pn) w) pn) pn)
 (nextS P (bltN .len #[26] 3 #[false] #[(e 3)]) (fun x70_255 =>
 LoopS [(e 4), (e 9), (e 3), x70_255, (Value.int IntKind.i64 0)] [4, 9, 69, 70, 71] fun nx11 e => S6_l11 nx11 ret pn e) pn)) pn
def S6_l9 (nx9 : List Value → C) (ret : Value → C) (pn : Pn) (e : Env) : C :=
 nextS P (binN .lss 3 (Operand.tmp 30) (Operand.tmp 29) (e 30) (e 29)) (fun x31_196 =>
 condS x31_196
 (nextS P (V (Instr.indexAt 22 (e 28) (e 30))) (fun x32_197 =>
 nextS P (V (Instr.loadAt 59 x32_197)) (fun x33_198 =>
 nextS P (V (Instr.alloc 59 true (.tuple #[]))) (fun x11_199 =>
 nextS P (U (Instr.storeAt 59 x11_199 x33_198)) (fun _ =>
 nextS P (V (Instr.fieldAt 59 x11_199 4)) (fun x34_201 =>
 nextS P (V (Instr.loadAt 36 x34_201)) (fun x35_202 =>
 callS P 16 #[x35_202] (fun x36_203 =>
 nextS P (V (Instr.fieldAt 59 x11_199 4)) (fun x37_204 =>
 nextS P (U (Instr.storeAt 36 x37_204 x36_203)) (fun _ =>
 DrawS fun S =>
 pureS P (nilN (e 9)) fun x40_206 =>
 pureS P (V (Instr.fieldAt 66 x40_206 1)) fun x41_207 =>
 pureS P (V (Instr.fieldAt 24 x41_207 0)) fun x42_208 =>
 takeS S P (V (Instr.loadAt 59 x11_199)) fun x44_209 =>
 fun w => (nextS P (V (Instr.loadAt 22 x42_208)) (fun x43_210 w => S w ∧ (nextS P (V (Instr.buildSlice 22 1 #[(0, x44_209)])) (fun x45_211 w => S w ∧ (nextS P (bltN .append #[22, 22] 22 #[false, false] #[x43_210, x45_211]) (fun x46_212 w => S w ∧ (pureS P (nilN (e 9)) fun x47_213 =>
 pureS P (V (Instr.fieldAt 66 x47_213 1)) fun x48_214 =>
 pureS P (V (Instr.fieldAt 24 x48_214 0)) fun x49_215 =>
 nextS P (U (Instr.storeAt 22 x49_215 x46_212)) (fun _ w => S w ∧ (nextS P (binN .add 3 (Operand.tmp 30) (Operand.const (Value.int IntKind.i64 1)) (e 30) (Value.int IntKind.i64 1)) (fun x50_217 =>
 nx9 [(e 1), (e 3), (e 4), (e 9), (e 28), (e 29), x50_217]) pn) w) pn) w) pn) w) pn) w) pn) w ∧ (nextS P (V (Instr.buildSlice 22 1 #[(0, x44_209)])) (fun x45_218 w => S w ∧ (nextS P (V (Instr.loadAt 22 x42_208)) (fun x43_219 w => S w ∧ (nextS P (bltN .append #[22, 22] 22 #[false, false] #[x43_219, x45_218]) (fun x46_220 w => S w ∧ (pureS P (nilN (e 9)) fun x47_221 =>
 pureS P (V (Instr.fieldAt 66 x47_221 1)) fun x48_222 =>
 pureS P (V (Instr.fieldAt 24 x48_222 0)) fun x49_223 =>
 nextS P (U (Instr.storeAt 22 x49_223 x46_220)) (fun _ w => S w ∧ (nextS P (binN .add 3 (Operand.tmp 30) (Operand.const (Value.int IntKind.i64 1)) (e 30) (Value.int IntKind.i64 1)) (fun x50_225 =>
 nx9 [(e 1), (e 3), (e 4), (e 9), (e 28), (e 29), x50_225]) pn) w) pn) w) pn) w) pn) w) pn) w) pn) pn) pn) pn) pn) pn) pn) pn) pn)
 (nextS P (bltN .len #[25] 3 #[false] #[(e 1)]) (fun x52_226 =>
 LoopS [(e 3), (e 4), (e 9), (e 1), x52_226, (Value.int IntKind.i64 0)] [3, 4, 9, 51, 52, 53] fun nx10 e => S6_l10 nx10 ret pn e) pn)) pn
def S6_l16 (nx16 : List Value → C) (ret : Value → C) (pn : Pn) (e : Env) : C :=
 nextS P (binN .lss 3 (Operand.tmp 84) (Operand.tmp 83) (e 84) (e 83)) (fun x85_359 =>
 condS x85_359
 (nextS P (V (Instr.indexAt 22 (e 82) (e 84))) (fun x86_360 =>
 nextS P (V (Instr.loadAt 59 x86_360)) (fun x87_361 =>
 nextS P (V (Instr.alloc 59 true (.tuple #[]))) (fun x18_362 =>
 nextS P (U (Instr.storeAt 59 x18_362 x87_361)) (fun _ =>
 nextS P (V (Instr.fieldAt 59 x18_362 1)) (fun x89_364 =>
 nextS P (V (Instr.loadAt 3 x89_364)) (fun x90_365 =>
 nextS P (V (Instr.buildSlice 71 1 #[(0, x90_365)])) (fun x91_366 =>
 nextS P (bltN .append #[71, 71] 71 #[false, false] #[(e 16), x91_366]) (fun x92_367 =>
 nextS P (binN .add 3 (Operand.tmp 84) (Operand.const (Value.int IntKind.i64 1)) (e 84) (Value.int IntKind.i64 1)) (fun x93_368 =>
 nx16 [(e 9), x92_367, (e 82), (e 83), x93_368]) pn) pn) pn) pn) pn) pn) pn) pn) pn)
 (callS P 18 #[(e 16)] (fun x96_369 =>
 nextS P (nilN (e 9)) (fun x97_370 =>
 nextS P (V (Instr.fieldAt 66 x97_370 4)) (fun x98_371 =>
 nextS P (U (Instr.storeAt 64 x98_371 x96_369)) (fun _ =>
 ret (e 9)) pn) pn) pn) pn)) pn
def S6_l15 (nx15 : List Value → C) (ret : Value → C) (pn : Pn) (e : Env) : C :=
 nextS P (binN .lss 3 (Operand.tmp 71) (Operand.tmp 70) (e 71) (e 70)) (fun x72_348 =>
 condS x72_348
 (nextS P (V (Instr.indexAt 26 (e 69) (e 71))) (fun x73_349 =>
 nextS P (V (Instr.loadAt 2 x73_349)) (fun x74_350 =>
 nextS P (nilN (e 9)) (fun x76_351 =>
 nextS P (V (Instr.fieldAt 66 x76_351 3)) (fun x77_352 =>
 nextS P (V (Instr.loadAt 62 x77_352)) (fun x78_353 =>
 commS P (sendN x78_353 x74_350) fun _ =>
 nextS P (binN .add 3 (Operand.tmp 71) (Operand.const (Value.int IntKind.i64 1)) (e 71) (Value.int IntKind.i64 1)) (fun x80_355 =>
 nx15 [(e 4), (e 9), (e 69), (e 70), x80_355]) pn) pn) pn) pn) pn) pn)
 (nextS P (V (Instr.fieldAt 24 (e 4) 0)) (fun x81_356 =>
 nextS P (V (Instr.loadAt 22 x81_356)) (fun x82_357 =>
 nextS P (bltN .len #[22] 3 #[false] #[x82_357]) (fun x83_358 =>
 LoopS [(e 9), (Value.slice none 0 0), x82_357, x83_358, (Value.int IntKind.i64 0)] [9, 16, 82, 83, 84] fun nx16 e => S6_l16 nx16 ret pn e) pn) pn) pn)) pn
def S6_l14 (nx14 : List Value → C) (ret : Value → C) (pn : Pn) (e : Env) : C :=
 nextS P (binN .lss 3 (Operand.tmp 53) (Operand.tmp 52) (e 53) (e 52)) (fun x54_319 =>
 condS x54_319
 (nextS P (V (Instr.indexAt 25 (e 51) (e 53))) (fun x55_320 =>
 nextS P (V (Instr.loadAt 56 x55_320)) (fun x56_321 =>
 DrawS fun S =>
 pureS P (nilN (e 9)) fun x59_322 =>
 pureS P (V (Instr.fieldAt 66 x59_322 2)) fun x60_323 =>
 fun w => (nextS P (V (Instr.loadAt 25 x60_323)) (fun x61_324 w => S w ∧ (callS P 17 #[x56_321] (fun x63_325 w => S w ∧ (nextS P (V (Instr.buildSlice 25 1 #[(0, x63_325)])) (fun x64_326 w => S w ∧ (nextS P (bltN .append #[25, 25] 25 #[false, false] #[x61_324, x64_326]) (fun x65_327 w => S w ∧ (pureS P (nilN (e 9)) fun x66_328 =>
 pureS P (V (Instr.fieldAt 66 x66_328 2)) fun x67_329 =>
 nextS P (U (Instr.storeAt 25 x67_329 x65_327)) (fun _ w => S w ∧ (nextS P (binN .add 3 (Operand.tmp 53) (Operand.const (Value.int IntKind.i64 1)) (e 53) (Value.int IntKind.i64 1)) (fun x68_331 =>
 nx14 [(e 3), (e 4), (e 9), (e 51), (e 52), x68_331]) pn) w) pn) w) pn) w) pn) w) pn) w) pn) w ∧ (callS P 17 #[x56_321] (fun x63_332 w => S w ∧ (fun w => (nextS P (V (Instr.loadAt 25 x60_323)) (fun x61_333 w => S w ∧ (nextS P (V (Instr.buildSlice 25 1 #[(0, x63_332)])) (fun x64_334 w => S w ∧ (nextS P (bltN .append #[25, 25] 25 #[false, false] #[x61_333, x64_334]) (fun x65_335 w => S w ∧ (pureS P (nilN (e 9)) fun x66_336 =>
 pureS P (V (Instr.fieldAt 66 x66_336 2)) fun x67_337 =>
 nextS P (U (Instr.storeAt 25 x67_337 x65_335)) (fun _ w => S w ∧ (nextS P (binN .add 3 (Operand.tmp 53) (Operand.const (Value.int IntKind.i64 1)) (e 53) (Value.int IntKind.i64 1)) (fun x68_339 =>
 nx14 [(e 3), (e 4), (e 9), (e 51), (e 52), x68_339]) pn) w) pn) w) pn) w) pn) w) pn) w ∧ (nextS P (V (Instr.buildSlice 25 1 #[(0, x63_332)])) (fun x64_340 w => S w ∧ (nextS P (V (Instr.loadAt 25 x60_323)) (fun x61_341 w => S w ∧ (nextS P (bltN .append #[25, 25] 25 #[false, false] #[x61_341, x64_340]) (fun x65_342 w => S w ∧ (pureS P (nilN (e 9)) fun x66_343 =>
 pureS P (V (Instr.fieldAt 66 x66_343 2)) fun x67_344 =>
 nextS P (U (Instr.storeAt 25 x67_344 x65_342)) (fun _ w => S w ∧ (nextS P (binN .add 3 (Operand.tmp 53) (Operand.const (Value.int IntKind.i64 1)) (e 53) (Value.int IntKind.i64 1)) (fun x68_346 =>
 nx14 [(e 3), (e 4), (e 9), (e 51), (e 52), x68_346]) pn) w) pn) w) pn) w) pn) w) pn) w) w) pn) w) pn) pn)
 (nextS P (bltN .len #[26] 3 #[false] #[(e 3)]) (fun x70_347 =>
 LoopS [(e 4), (e 9), (e 3), x70_347, (Value.int IntKind.i64 0)] [4, 9, 69, 70, 71] fun nx15 e => S6_l15 nx15 ret pn e) pn)) pn
def S6_l13 (nx13 : List Value → C) (ret : Value → C) (pn : Pn) (e : Env) : C :=
 nextS P (binN .lss 3 (Operand.tmp 30) (Operand.tmp 29) (e 30) (e 29)) (fun x31_288 =>
 condS x31_288
 (nextS P (V (Instr.indexAt 22 (e 28) (e 30))) (fun x32_289 =>
 nextS P (V (Instr.loadAt 59 x32_289)) (fun x33_290 =>
 nextS P (V (Instr.alloc 59 true (.tuple #[]))) (fun x11_291 =>
 nextS P (U (Instr.storeAt 59 x11_291 x33_290)) (fun _ =>
 nextS P (V (Instr.fieldAt 59 x11_291 4)) (fun x34_293 =>
 nextS P (V (Instr.loadAt 36 x34_293)) (fun x35_294 =>
 callS P 16 #[x35_294] (fun x36_295 =>
 nextS P (V (Instr.fieldAt 59 x11_291 4)) (fun x37_296 =>
 nextS P (U (Instr.storeAt 36 x37_296 x36_295)) (fun _ =>
 DrawS fun S =>
 pureS P (nilN (e 9)) fun x40_298 =>
 pureS P (V (Instr.fieldAt 66 x40_298 1)) fun x41_299 =>
 pureS P (V (Instr.fieldAt 24 x41_299 0)) fun x42_300 =>
 takeS S P (V (Instr.loadAt 59 x11_291)) fun x44_301 =>
 fun w => (nextS P (V (Instr.loadAt 22 x42_300)) (fun x43_302 w => S w ∧ (nextS P (V (Instr.buildSlice 22 1 #[(0, x44_301)])) (fun x45_303 w => S w ∧ (nextS P (bltN .append #[22, 22] 22 #[false, false] #[x43_302, x45_303]) (fun x46_304 w => S w ∧ (pureS P (nilN (e 9)) fun x47_305 =>
 pureS P (V (Instr.fieldAt 66 x47_305 1)) fun x48_306 =>
 pureS P (V (Instr.fieldAt 24 x48_306 0)) fun x49_307 =>
 nextS P (U (Instr.storeAt 22 x49_307 x46_304)) (fun _ w => S w ∧ (nextS P (binN .add 3 (Operand.tmp 30) (Operand.const (Value.int IntKind.i64 1)) (e 30) (Value.int IntKind.i64 1)) (fun x50_309 =>
 nx13 [(e 1), (e 3), (e 4), (e 9), (e 28), (e 29), x50_309]) pn) w) pn) w) pn) w) pn) w) pn) w ∧ (nextS P (V (Instr.buildSlice 22 1 #[(0, x44_301)])) (fun x45_310 w => S w ∧ (nextS P (V (Instr.loadAt 22 x42_300)) (fun x43_311 w => S w ∧ (nextS P (bltN .append #[22, 22] 22 #[false, false] #[x43_311, x45_310]) (fun x46_312 w => S w ∧ (pureS P (nilN (e 9)) fun x47_313 =>
 pureS P (V (Instr.fieldAt 66 x47_313 1)) fun x48_314 =>
 pureS P (V (Instr.fieldAt 24 x48_314 0)) fun x49_315 =>
 nextS P (U (Instr.storeAt 22 x49_315 x46_312)) (fun _ w => S w ∧ (nextS P (binN .add 3 (Operand.tmp 30) (Operand.const (Value.int IntKind.i64 1)) (e 30) (Value.int IntKind.i64 1)) (fun x50_317 =>
 nx13 [(e 1), (e 3), (e 4), (e 9), (e 28), (e 29), x50_317]) pn) w) pn) w) pn) w) pn) w) pn) w) pn) pn) pn) pn) pn) pn) pn) pn) pn)
 (nextS P (bltN .len #[25] 3 #[false] #[(e 1)]) (fun x52_318 =>
 LoopS [(e 3), (e 4), (e 9), (e 1), x52_318, (Value.int IntKind.i64 0)] [3, 4, 9, 51, 52, 53] fun nx14 e => S6_l14 nx14 ret pn e) pn)) pn
def S6_l20 (nx20 : List Value → C) (ret : Value → C) (pn : Pn) (e : Env) : C :=
 nextS P (binN .lss 3 (Operand.tmp 84) (Operand.tmp 83) (e 84) (e 83)) (fun x85_452 =>
 condS x85_452
 (nextS P (V (Instr.indexAt 22 (e 82) (e 84))) (fun x86_453 =>
 nextS P (V (Instr.loadAt 59 x86_453)) (fun x87_454 =>
 nextS P (V (Instr.alloc 59 true (.tuple #[]))) (fun x18_455 =>
 nextS P (U (Instr.storeAt 59 x18_455 x87_454)) (fun _ =>
 nextS P (V (Instr.fieldAt 59 x18_455 1)) (fun x89_457 =>
 nextS P (V (Instr.loadAt 3 x89_457)) (fun x90_458 =>
 nextS P (V (Instr.buildSlice 71 1 #[(0, x90_458)])) (fun x91_459 =>
 nextS P (bltN .append #[71, 71] 71 #[false, false] #[(e 16), x91_459]) (fun x92_460 =>
 nextS P (binN .add 3 (Operand.tmp 84) (Operand.const (Value.int IntKind.i64 1)) (e 84) (Value.int IntKind.i64 1)) (fun x93_461 =>
 nx20 [(e 9), x92_460, (e 82), (e 83), x93_461]) pn) pn) pn) pn) pn) pn) pn) pn) pn)
 (callS P 18 #[(e 16)] (fun x96_462 =>
 nextS P (nilN (e 9)) (fun x97_463 =>
 nextS P (V (Instr.fieldAt 66 x97_463 4)) (fun x98_464 =>
 nextS P (U (Instr.storeAt 64 x98_464 x96_462)) (fun _ =>
 ret (e 9)) pn) pn) pn) pn)) pn
def S6_l19 (nx19 : List Value → C) (ret : Value → C) (pn : Pn) (e : Env) : C :=
 nextS P (binN .lss 3 (Operand.tmp 71) (Operand.tmp 70) (e 71) (e 70)) (fun x72_441 =>
 condS x72_441
 (nextS P (V (Instr.indexAt 26 (e 69) (e 71))) (fun x73_442 =>
 nextS P (V (Instr.loadAt 2 x73_442)) (fun x74_443 =>
 nextS P (nilN (e 9)) (fun x76_444 =>
 nextS P (V (Instr.fieldAt 66 x76_444 3)) (fun x77_445 =>
 nextS P (V (Instr.loadAt 62 x77_445)) (fun x78_446 =>
 commS P (sendN x78_446 x74_443) fun _ =>
 nextS P (binN .add 3 (Operand.tmp 71) (Operand.const (Value.int IntKind.i64 1)) (e 71) (Value.int IntKind.i64 1)) (fun x80_448 =>
 nx19 [(e 4), (e 9), (e 69), (e 70), x80_448]) pn) pn) pn) pn) pn) pn)
 (nextS P (V (Instr.fieldAt 24 (e 4) 0)) (fun x81_449 =>
 nextS P (V (Instr.loadAt 22 x81_449)) (fun x82_450 =>
 nextS P (bltN .len #[22] 3 #[false] #[x82_450]) (fun x83_451 =>
 LoopS [(e 9), (Value.slice none 0 0), x82_450, x83_451, (Value.int IntKind.i64 0)] [9, 16, 82, 83, 84] fun nx20 e => S6_l20 nx20 ret pn e) pn) pn) pn)) pn
def S6_l18 (nx18 : List Value → C) (ret : Value → C) (pn : Pn) (e : Env) : C :=
 nextS P (binN .lss 3 (Operand.tmp 53) (Operand.tmp 52) (e 53) (e 52)) (fun x54_412 =>
 condS x54_412
 (nextS P (V (Instr.indexAt 25 (e 51) (e 53))) (fun x55_413 =>
 nextS P (V (Instr.loadAt 56 x55_413)) (fun x56_414 =>
 DrawS fun S =>
 pureS P (nilN (e 9)) fun x59_415 =>
 pureS P (V (Instr.fieldAt 66 x59_415 2)) fun x60_416 =>
 fun w => (nextS P (V (Instr.loadAt 25 x60_416)) (fun x61_417 w => S w ∧ (callS P 17 #[x56_414] (fun x63_418 w => S w ∧ (nextS P (V (Instr.buildSlice 25 1 #[(0, x63_418)])) (fun x64_419 w => S w ∧ (nextS P (bltN .append #[25, 25] 25 #[false, false] #[x61_417, x64_419]) (fun x65_420 w => S w ∧ (pureS P (nilN (e 9)) fun x66_421 =>
 pureS P (V (Instr.fieldAt 66 x66_421 2)) fun x67_422 =>
 nextS P (U (Instr.storeAt 25 x67_422 x65_420)) (fun _ w => S w ∧ (nextS P (binN .add 3 (Operand.tmp 53) (Operand.const (Value.int IntKind.i64 1)) (e 53) (Value.int IntKind.i64 1)) (fun x68_424 =>
 nx18 [(e 3), (e 4), (e 9), (e 51), (e 52), x68_424]) pn) w) pn) w) pn) w) pn) w) pn) w) pn) w ∧ (callS P 17 #[x56_414] (fun x63_425 w => S w ∧ (fun w => (nextS P (V (Instr.loadAt 25 x60_416)) (fun x61_426 w => S w ∧ (nextS P (V (Instr.buildSlice 25 1 #[(0, x63_425)])) (fun x64_427 w => S w ∧ (nextS P (bltN .append #[25, 25] 25 #[false, false] #[x61_426, x64_427]) (fun x65_428 w => S w ∧ (pureS P (nilN (e 9)) fun x66_429 =>
 pureS P (V (Instr.fieldAt 66 x66_429 2)) fun x67_430 =>
 nextS P (U (Instr.storeAt 25 x67_430 x65_428)) (fun _ w => S w ∧ (nextS P (binN .add 3 (Operand.tmp 53) (Operand.const (Value.int IntKind.i64 1)) (e 53) (Value.int IntKind.i64 1)) (fun x68_432 =>
 nx18 [(e 3), (e 4), (e 9), (e 51), (e 52), x68_432]) pn) w) pn) w) pn) w) pn) w) pn) w ∧ (nextS P (V (Instr.buildSlice 25 1 #[(0, x63_425)])) (fun x64_433 w => S w ∧ (nextS P (V (Instr.loadAt 25 x60_416)) (fun x61_434 w => S w ∧ (nextS P (bltN .append #[25, 25] 25 #[false, false] #[x61_434, x64_433]) (fun x65_435 w => S w ∧ (pureS P (nilN (e 9)) fun x66_436 =>
 pureS P (V (Instr.fieldAt 66 x66_436 2)) fun x67_437 =>
 nextS P (U (Instr.storeAt 25 x67_437 x65_435)) (fun _ w => S w ∧ (nextS P (binN .add 3 (Operand.tmp 53) (Operand.const (Value.int IntKind.i64 1)) (e 53) (Value.int IntKind.i64 1)) (fun x68_439 =>
 nx18 [(e 3), (e 4), (e 9), (e 51), (e 52), x68_439]) pn) w) pn) w) pn) w) pn) w) pn) w) w) pn) w) pn) pn)
 (nextS P (bltN .len #[26] 3 #[false] #[(e 3)]) (fun x70_440 =>
 LoopS [(e 4), (e 9), (e 3), x70_440, (Value.int IntKind.i64 0)] [4, 9, 69, 70, 71] fun nx19 e => S6_l19 nx19 ret pn e) pn)) pn
def S6_l17 (nx17 : List Value → C) (ret : Value → C) (pn : Pn) (e : Env) : C :=
 nextS P (binN .lss 3 (Operand.tmp 30) (Operand.tmp 29) (e 30) (e 29)) (fun x31_381 =>
 condS x31_381
 (nextS P (V (Instr.indexAt 22 (e 28) (e 30))) (fun x32_382 =>
 nextS P (V (Instr.loadAt 59 x32_382)) (fun x33_383 =>
 nextS P (V (Instr.alloc 59 true (.tuple #[]))) (fun x11_384 =>
 nextS P (U (Instr.storeAt 59 x11_384 x33_383)) (fun _ =>
 nextS P (V (Instr.fieldAt 59 x11_384 4)) (fun x34_386 =>
 nextS P (V (Instr.loadAt 36 x34_386)) (fun x35_387 =>
 callS P 16 #[x35_387] (fun x36_388 =>
 nextS P (V (Instr.fieldAt 59 x11_384 4)) (fun x37_389 =>
 nextS P (U (Instr.storeAt 36 x37_389 x36_388)) (fun _ =>
 DrawS fun S =>
 pureS P (nilN (e 9)) fun x40_391 =>
 pureS P (V (Instr.fieldAt 66 x40_391 1)) fun x41_392 =>
 pureS P (V (Instr.fieldAt 24 x41_392 0)) fun x42_393 =>
 takeS S P (V (Instr.loadAt 59 x11_384)) fun x44_394 =>
 fun w => (nextS P (V (Instr.loadAt 22 x42_393)) (fun x43_395 w => S w ∧ (nextS P (V (Instr.buildSlice 22 1 #[(0, x44_394)])) (fun x45_396 w => S w ∧ (nextS P (bltN .append #[22, 22] 22 #[false, false] #[x43_395, x45_396]) (fun x46_397 w => S w ∧ (pureS P (nilN (e 9)) fun x47_398 =>
 pureS P (V (Instr.fieldAt 66 x47_398 1)) fun x48_399 =>
 pureS P (V (Instr.fieldAt 24 x48_399 0)) fun x49_400 =>
 nextS P (U (Instr.storeAt 22 x49_400 x46_397)) (fun _ w => S w ∧ (nextS P (binN .add 3 (Operand.tmp 30) (Operand.const (Value.int IntKind.i64 1)) (e 30) (Value.int IntKind.i64 1)) (fun x50_402 =>
 nx17 [(e 1), (e 3), (e 4), (e 9), (e 28), (e 29), x50_402]) pn) w) pn) w) pn) w) pn) w) pn) w ∧ (nextS P (V (Instr.buildSlice 22 1 #[(0, x44_394)])) (fun x45_403 w => S w ∧ (nextS P (V (Instr.loadAt 22 x42_393)) (fun x43_404 w => S w ∧ (nextS P (bltN .append #[22, 22] 22 #[false, false] #[x43_404, x45_403]) (fun x46_405 w => S w ∧ (pureS P (nilN (e 9)) fun x47_406 =>
 pureS P (V (Instr.fieldAt 66 x47_406 1)) fun x48_407 =>
 pureS P (V (Instr.fieldAt 24 x48_407 0)) fun x49_408 =>
 nextS P (U (Instr.storeAt 22 x49_408 x46_405)) (fun _ w => S w ∧ (nextS P (binN .add 3 (Operand.tmp 30) (Operand.const (Value.int IntKind.i64 1)) (e 30) (Value.int IntKind.i64 1)) (fun x50_410 =>
 nx17 [(e 1), (e 3), (e 4), (e 9), (e 28), (e 29), x50_410]) pn) w) pn) w) pn) w) pn) w) pn) w) pn) pn) pn) pn) pn) pn) pn) pn) pn)
 (nextS P (bltN .len #[25] 3 #[false] #[(e 1)]) (fun x52_411 =>
 LoopS [(e 3), (e 4), (e 9), (e 1), x52_411, (Value.int IntKind.i64 0)] [3, 4, 9, 51, 52, 53] fun nx18 e => S6_l18 nx18 ret pn e) pn)) pn
def S6_l24 (nx24 : List Value → C) (ret : Value → C) (pn : Pn) (e : Env) : C :=
 nextS P (binN .lss 3 (Operand.tmp 84) (Operand.tmp 83) (e 84) (e 83)) (fun x85_544 =>
 condS x85_544
 (nextS P (V (Instr.indexAt 22 (e 82) (e 84))) (fun x86_545 =>
 nextS P (V (Instr.loadAt 59 x86_545)) (fun x87_546 =>
 nextS P (V (Instr.alloc 59 true (.tuple #[]))) (fun x18_547 =>
 nextS P (U (Instr.storeAt 59 x18_547 x87_546)) (fun _ =>
 nextS P (V (Instr.fieldAt 59 x18_547 1)) (fun x89_549 =>
 nextS P (V (Instr.loadAt 3 x89_549)) (fun x90_550 =>
 nextS P (V (Instr.buildSlice 71 1 #[(0, x90_550)])) (fun x91_551 =>
 nextS P (bltN .append #[71, 71] 71 #[false, false] #[(e 16), x91_551]) (fun x92_552 =>
 nextS P (binN .add 3 (Operand.tmp 84) (Operand.const (Value.int IntKind.i64 1)) (e 84) (Value.int IntKind.i64 1)) (fun x93_553 =>
 nx24 [(e 9), x92_552, (e 82), (e 83), x93_553]) pn) pn) pn) pn) pn) pn) pn) pn) pn)
 (callS P 18 #[(e 16)] (fun x96_554 =>
 nextS P (nilN (e 9)) (fun x97_555 =>
 nextS P (V (Instr.fieldAt 66 x97_555 4)) (fun x98_556 =>
 nextS P (U (Instr.storeAt 64 x98_556 x96_554)) (fun _ =>
 ret (e 9)) pn) pn) pn) pn)) pn
def S6_l23 (nx23 : List Value → C) (ret : Value → C) (pn : Pn) (e : Env) : C :=
 nextS P (binN .lss 3 (Operand.tmp 71) (Operand.tmp 70) (e 71) (e 70)) (fun x72_533 =>
 condS x72_533
 (nextS P (V (Instr.indexAt 26 (e 69) (e 71))) (fun x73_534 =>
 nextS P (V (Instr.loadAt 2 x73_534)) (fun x74_535 =>
 nextS P (nilN (e 9)) (fun x76_536 =>
 nextS P (V (Instr.fieldAt 66 x76_536 3)) (fun x77_537 =>
 nextS P (V (Instr.loadAt 62 x77_537)) (fun x78_538 =>
 commS P (sendN x78_538 x74_535) fun _ =>
 nextS P (binN .add 3 (Operand.tmp 71) (Operand.const (Value.int IntKind.i64 1)) (e 71) (Value.int IntKind.i64 1)) (fun x80_540 =>
 nx23 [(e 4), (e 9), (e 69), (e 70), x80_540]) pn) pn) pn) pn) pn) pn)
 (nextS P (V (Instr.fieldAt 24 (e 4) 0)) (fun x81_541 =>
 nextS P (V (Instr.loadAt 22 x81_541)) (fun x82_542 =>
 nextS P (bltN .len #[22] 3 #[false] #[x82_542]) (fun x83_543 =>
 LoopS [(e 9), (Value.slice none 0 0), x82_542, x83_543, (Value.int IntKind.i64 0)] [9, 16, 82, 83, 84] fun nx24 e => S6_l24 nx24 ret pn e) pn) pn) pn)) pn
def S6_l22 (nx22 : List Value → C) (ret : Value → C) (pn : Pn) (e : Env) : C :=
 nextS P (binN .lss 3 (Operand.tmp 53) (Operand.tmp 52) (e 53) (e 52)) (fun x54_504 =>
 condS x54_504
 (nextS P (V (Instr.indexAt 25 (e 51) (e 53))) (fun x55_505 =>
 nextS P (V (Instr.loadAt 56 x55_505)) (fun x56_506 =>
 DrawS fun S =>
 pureS P (nilN (e 9)) fun x59_507 =>
 pureS P (V (Instr.fieldAt 66 x59_507 2)) fun x60_508 =>
 fun w => (nextS P (V (Instr.loadAt 25 x60_508)) (fun x61_509 w => S w ∧ (callS P 17 #[x56_506] (fun x63_510 w => S w ∧ (nextS P (V (Instr.buildSlice 25 1 #[(0, x63_510)])) (fun x64_511 w => S w ∧ (nextS P (bltN .append #[25, 25] 25 #[false, false] #[x61_509, x64_511]) (fun x65_512 w => S w ∧ (pureS P (nilN (e 9)) fun x66_513 =>
 pureS P (V (Instr.fieldAt 66 x66_513 2)) fun x67_514 =>
 nextS P (U (Instr.storeAt 25 x67_514 x65_512)) (fun _ w => S w ∧ (nextS P (binN .add 3 (Operand.tmp 53) (Operand.const (Value.int IntKind.i64 1)) (e 53) (Value.int IntKind.i64 1)) (fun x68_516 =>
 nx22 [(e 3), (e 4), (e 9), (e 51), (e 52), x68_516]) pn) w) pn) w) pn) w) pn) w) pn) w) pn) w ∧ (callS P 17 #[x56_506] (fun x63_517 w => S w ∧ (fun w => (nextS P (V (Instr.loadAt 25 x60_508)) (fun x61_518 w => S w ∧ (nextS P (V (Instr.buildSlice 25 1 #[(0, x63_517)])) (fun x64_519 w => S w ∧ (nextS P (bltN .append #[25, 25] 25 #[false, false] #[x61_518, x64_519]) (fun x65_520 w => S w ∧ (pureS P (nilN (e 9)) fun x66_521 =>
 pureS P (V (Instr.fieldAt 66 x66_521 2)) fun x67_522 =>
 nextS P (U (Instr.storeAt 25 x67_522 x65_520)) (fun _ w => S w ∧ (nextS P (binN .add 3 (Operand.tmp 53) (Operand.const (Value.int IntKind.i64 1)) (e 53) (Value.int IntKind.i64 1)) (fun x68_524 =>
 nx22 [(e 3), (e 4), (e 9), (e 51), (e 52), x68_524]) pn) w) pn) w) pn) w) pn) w) pn) w ∧ (nextS P (V (Instr.buildSlice 25 1 #[(0, x63_517)])) (fun x64_525 w => S w ∧ (nextS P (V (Instr.loadAt 25 x60_508)) (fun x61_526 w => S w ∧ (nextS P (bltN .append #[25, 25] 25 #[false, false] #[x61_526, x64_525]) (fun x65_527 w => S w ∧ (pureS P (nilN (e 9)) fun x66_528 =>
 pureS P (V (Instr.fieldAt 66 x66_528 2)) fun x67_529 =>
 nextS P (U (Instr.storeAt 25 x67_529 x65_527)) (fun _ w => S w ∧ (nextS P (binN .add 3 (Operand.tmp 53) (Operand.const (Value.int IntKind.i64 1)) (e 53) (Value.int IntKind.i64 1)) (fun x68_531 =>
 nx22 [(e 3), (e 4), (e 9), (e 51), (e 52), x68_531]) pn) w) pn) w) pn) w) pn) w) pn) w) w) pn) w) pn) pn)
 (nextS P (bltN .len #[26] 3 #[false] #[(e 3)]) (fun x70_532 =>
 LoopS [(e 4), (e 9), (e 3), x70_532, (Value.int IntKind.i64 0)] [4, 9, 69, 70, 71] fun nx23 e => S6_l23 nx23 ret pn e) pn)) pn
def S6_l21 (nx21 : List Value → C) (ret : Value → C) (pn : Pn) (e : Env) : C :=
 nextS P (binN .lss 3 (Operand.tmp 30) (Operand.tmp 29) (e 30) (e 29)) (fun x31_473 =>
 condS x31_473
 (nextS P (V (Instr.indexAt 22 (e 28) (e 30))) (fun x32_474 =>
 nextS P (V (Instr.loadAt 59 x32_474)) (fun x33_475 =>
 nextS P (V (Instr.alloc 59 true (.tuple #[]))) (fun x11_476 =>
 nextS P (U (Instr.storeAt 59 x11_476 x33_475)) (fun _ =>
 nextS P (V (Instr.fieldAt 59 x11_476 4)) (fun x34_478 =>
 nextS P (V (Instr.loadAt 36 x34_478)) (fun x35_479 =>
 callS P 16 #[x35_479] (fun x36_480 =>
 nextS P (V (Instr.fieldAt 59 x11_476 4)) (fun x37_481 =>
 nextS P (U (Instr.storeAt 36 x37_481 x36_480)) (fun _ =>
 DrawS fun S =>
 pureS P (nilN (e 9)) fun x40_483 =>
 pureS P (V (Instr.fieldAt 66 x40_483 1)) fun x41_484 =>
 pureS P (V (Instr.fieldAt 24 x41_484 0)) fun x42_485 =>
 takeS S P (V (Instr.loadAt 59 x11_476)) fun x44_486 =>
 fun w => (nextS P (V (Instr.loadAt 22 x42_485)) (fun x43_487 w => S w ∧ (nextS P (V (Instr.buildSlice 22 1 #[(0, x44_486)])) (fun x45_488 w => S w ∧ (nextS P (bltN .append #[22, 22] 22 #[false, false] #[x43_487, x45_488]) (fun x46_489 w => S w ∧ (pureS P (nilN (e 9)) fun x47_490 =>
 pureS P (V (Instr.fieldAt 66 x47_490 1)) fun x48_491 =>
 pureS P (V (Instr.fieldAt 24 x48_491 0)) fun x49_492 =>
 nextS P (U (Instr.storeAt 22 x49_492 x46_489)) (fun _ w => S w ∧ (nextS P (binN .add 3 (Operand.tmp 30) (Operand.const (Value.int IntKind.i64 1)) (e 30) (Value.int IntKind.i64 1)) (fun x50_494 =>
 nx21 [(e 1), (e 3), (e 4), (e 9), (e 28), (e 29), x50_494]) pn) w) pn) w) pn) w) pn) w) pn) w ∧ (nextS P (V (Instr.buildSlice 22 1 #[(0, x44_486)])) (fun x45_495 w => S w ∧ (nextS P (V (Instr.loadAt 22 x42_485)) (fun x43_496 w => S w ∧ (nextS P (bltN .append #[22, 22] 22 #[false, false] #[x43_496, x45_495]) (fun x46_497 w => S w ∧ (pureS P (nilN (e 9)) fun x47_498 =>
 pureS P (V (Instr.fieldAt 66 x47_498 1)) fun x48_499 =>
 pureS P (V (Instr.fieldAt 24 x48_499 0)) fun x49_500 =>
 nextS P (U (Instr.storeAt 22 x49_500 x46_497)) (fun _ w => S w ∧ (nextS P (binN .add 3 (Operand.tmp 30) (Operand.const (Value.int IntKind.i64 1)) (e 30) (Value.int IntKind.i64 1)) (fun x50_502 =>
 nx21 [(e 1), (e 3), (e 4), (e 9), (e 28), (e 29), x50_502]) pn) w) pn) w) pn) w) pn) w) pn) w) pn) pn) pn) pn) pn) pn) pn) pn) pn)
 (nextS P (bltN .len #[25] 3 #[false] #[(e 1)]) (fun x52_503 =>
 LoopS [(e 3), (e 4), (e 9), (e 1), x52_503, (Value.int IntKind.i64 0)] [3, 4, 9, 51, 52, 53] fun nx22 e => S6_l22 nx22 ret pn e) pn)) pn
def S6 (a0 a1 a2 a3 : Value) (ret : Value → C) (pn : Pn) : C :=
 nextS P (V (Instr.box 24 a0)) (fun x4_1 =>
 DrawS fun S =>
 takeS S P (bltN .len #[26] 3 #[false] #[a3]) fun x22_2 =>
 fun w => (callS P 15 #[a2] (fun x20_3 w => S w ∧ (fun w => (nextS P (V (Instr.makeChan 62 x22_2)) (fun x23_4 w => S w ∧ (nextS P (V (Instr.makeMap 63 none)) (fun x24_5 w => S w ∧ (pureS P (V (Instr.build 66 #[(0, x20_3), (3, x23_4), (5, x24_5)])) fun x25_6 =>
 nextS P (V (Instr.box 66 x25_6)) (fun x26_7 w => S w ∧ (nextS P (V (Instr.fieldAt 24 x4_1 0)) (fun x27_8 =>
 nextS P (V (Instr.loadAt 22 x27_8)) (fun x28_9 =>
 nextS P (bltN .len #[22] 3 #[false] #[x28_9]) (fun x29_10 =>
 LoopS [a1, a3, x4_1, x26_7, x28_9, x29_10, (Value.int IntKind.i64 0)] [1, 3, 4, 9, 28, 29, 30] fun nx1 e => S6_l1 nx1 ret pn e) pn) pn) pn) w) pn) w) pn) w) pn) w ∧ (nextS P (V (Instr.makeMap 63 none)) (fun x24_96 w => S w ∧ (nextS P (V (Instr.makeChan 62 x22_2)) (fun x23_97 w => S w ∧ (pureS P (V (Instr.build 66 #[(0, x20_3), (3, x23_97), (5, x24_96)])) fun x25_98 =>
 nextS P (V (Instr.box 66 x25_98)) (fun x26_99 w => S w ∧ (nextS P (V (Instr.fieldAt 24 x4_1 0)) (fun x27_100 =>
 nextS P (V (Instr.loadAt 22 x27_100)) (fun x28_101 =>
 nextS P (bltN .len #[22] 3 #[false] #[x28_101]) (fun x29_102 =>
 LoopS [a1, a3, x4_1, x26_99, x28_101, x29_102, (Value.int IntKind.i64 0)] [1, 3, 4, 9, 28, 29, 30] fun nx5 e => S6_l5 nx5 ret pn e) pn) pn) pn) w) pn) w) pn) w) pn) w) w) pn) w ∧ (nextS P (V (Instr.makeChan 62 x22_2)) (fun x23_188 w => S w ∧ (fun w => (callS P 15 #[a2] (fun x20_189 w => S w ∧ (nextS P (V (Instr.makeMap 63 none)) (fun x24_190 w => S w ∧ (pureS P (V (Instr.build 66 #[(0, x20_189), (3, x23_188), (5, x24_190)])) fun x25_191 =>
 nextS P (V (Instr.box 66 x25_191)) (fun x26_192 w => S w ∧ (nextS P (V (Instr.fieldAt 24 x4_1 0)) (fun x27_193 =>
 nextS P (V (Instr.loadAt 22 x27_193)) (fun x28_194 =>
 nextS P (bltN .len #[22] 3 #[false] #[x28_194]) (fun x29_195 =>
 LoopS [a1, a3, x4_1, x26_192, x28_194, x29_195, (Value.int IntKind.i64 0)] [1, 3, 4, 9, 28, 29, 30] fun nx9 e => S6_l9 nx9 ret pn e) pn) pn) pn) w) pn) w) pn) w) pn) w ∧ (nextS P (V (Instr.makeMap 63 none)) (fun x24_281 w => S w ∧ (callS P 15 #[a2] (fun x20_282 w => S w ∧ (pureS P (V (Instr.build 66 #[(0, x20_282), (3, x23_188), (5, x24_281)])) fun x25_283 =>
 nextS P (V (Instr.box 66 x25_283)) (fun x26_284 w => S w ∧ (nextS P (V (Instr.fieldAt 24 x4_1 0)) (fun x27_285 =>
 nextS P (V (Instr.loadAt 22 x27_285)) (fun x28_286 =>
 nextS P (bltN .len #[22] 3 #[false] #[x28_286]) (fun x29_287 =>
 LoopS [a1, a3, x4_1, x26_284, x28_286, x29_287, (Value.int IntKind.i64 0)] [1, 3, 4, 9, 28, 29, 30] fun nx13 e => S6_l13 nx13 ret pn e) pn) pn) pn) w) pn) w) pn) w) pn) w) w) pn) w ∧ (nextS P (V (Instr.makeMap 63 none)) (fun x24_373 w => S w ∧ (fun w => (callS P 15 #[a2] (fun x20_374 w => S w ∧ (nextS P (V (Instr.makeChan 62 x22_2)) (fun x23_375 w => S w ∧ (pureS P (V (Instr.build 66 #[(0, x20_374), (3, x23_375), (5, x24_373)])) fun x25_376 =>
 nextS P (V (Instr.box 66 x25_376)) (fun x26_377 w => S w ∧ (nextS P (V (Instr.fieldAt 24 x4_1 0)) (fun x27_378 =>
 nextS P (V (Instr.loadAt 22 x27_378)) (fun x28_379 =>
 nextS P (bltN .len #[22] 3 #[false] #[x28_379]) (fun x29_380 =>
 LoopS [a1, a3, x4_1, x26_377, x28_379, x29_380, (Value.int IntKind.i64 0)] [1, 3, 4, 9, 28, 29, 30] fun nx17 e => S6_l17 nx17 ret pn e) pn) pn) pn) w) pn) w) pn) w) pn) w ∧ (nextS P (V (Instr.makeChan 62 x22_2)) (fun x23_466 w => S w ∧ (callS P 15 #[a2] (fun x20_467 w => S w ∧ (pureS P (V (Instr.build 66 #[(0, x20_467), (3, x23_466), (5, x24_373)])) fun x25_468 =>
 nextS P (V (Instr.box 66 x25_468)) (fun x26_469 w => S w ∧ (nextS P (V (Instr.fieldAt 24 x4_1 0)) (fun x27_470 =>
 nextS P (V (Instr.loadAt 22 x27_470)) (fun x28_471 =>
 nextS P (bltN .len #[22] 3 #[false] #[x28_471]) (fun x29_472 =>
 LoopS [a1, a3, x4_1, x26_469, x28_471, x29_472, (Value.int IntKind.i64 0)] [1, 3, 4, 9, 28, 29, 30] fun nx21 e => S6_l21 nx21 ret pn e) pn) pn) pn) w) pn) w) pn) w) pn) w) w) pn) w) pn
def mo6 : Nat → Mo
  | 1 => (Mo.take 0 (Mo.take 2 (Mo.take 3 (Mo.three 1 (Mo.two 4 (Mo.eff 5 (Mo.take 6 (Mo.eff 7 (Mo.take 8 Mo.done)))) 5 (Mo.eff 4 (Mo.take 6 (Mo.eff 7 (Mo.take 8 Mo.done))))) 4 (Mo.two 1 (Mo.eff 5 (Mo.take 6 (Mo.eff 7 (Mo.take 8 Mo.done)))) 5 (Mo.eff 1 (Mo.take 6 (Mo.eff 7 (Mo.take 8 Mo.done))))) 5 (Mo.two 1 (Mo.eff 4 (Mo.take 6 (Mo.eff 7 (Mo.take 8 Mo.done)))) 4 (Mo.eff 1 (Mo.take 6 (Mo.eff 7 (Mo.take 8 Mo.done)))))))))
  | 6 => (Mo.take 0 (Mo.take 1 (Mo.take 2 (Mo.take 3 (Mo.take 4 (Mo.take 6 (Mo.two 5 (Mo.eff 7 (Mo.eff 8 (Mo.take 9 (Mo.take 10 (Mo.take 11 (Mo.eff 12 Mo.done)))))) 7 (Mo.eff 5 (Mo.eff 8 (Mo.take 9 (Mo.take 10 (Mo.take 11 (Mo.eff 12 Mo.done)))))))))))))
  | 11 => (Mo.take 0 (Mo.take 1 (Mo.take 2 (Mo.take 3 (Mo.take 5 (Mo.two 4 (Mo.eff 6 (Mo.eff 7 (Mo.eff 8 (Mo.take 9 (Mo.take 10 (Mo.eff 11 Mo.done)))))) 6 (Mo.two 4 (Mo.eff 7 (Mo.eff 8 (Mo.take 9 (Mo.take 10 (Mo.eff 11 Mo.done))))) 7 (Mo.eff 4 (Mo.eff 8 (Mo.take 9 (Mo.take 10 (Mo.eff 11 Mo.done))))))))))))
  | _ => .done
def lv6 : Nat → List Nat
  | 3 => [1, 3, 4, 9, 28, 29, 30]
  | 9 => [3, 4, 9, 51, 52, 53]
  | 14 => [4, 9, 69, 70, 71]
  | 20 => [9, 16, 82, 83, 84]
  | _ => []
theorem ok6 : okC Tryz.f6.ntmps mo6 (Tryz.f6.body.getD .skip) = true := by kernel_rfl
theorem eq6 (a0 a1 a2 a3 : Value) (ret : Value → C) (pn : Pn) : D P mo6 lv6 pn (Tryz.f6.body.getD .skip) (finQ P Tryz.f6.results ret) (env0 [a0, a1, a2, a3]) = S6 a0 a1 a2 a3 ret pn := by kernel_rfl
theorem c6 {a0 a1 a2 a3 : Value} {R : Ending → World → Prop} {w : World} (h : S6 a0 a1 a2 a3 (fun v w => R (.returned v) w) (fun c w => R (.panicked c) w) w) : Calls P 6 #[a0, a1, a2, a3] w R :=
  callsD mixed mo6 lv6 Tryz.func6 rfl (Nat.le_of_ble_eq_true rfl) ok6 ((congrFun (eq6 a0 a1 a2 a3 _ _) w).mpr h)
theorem en6 (args : Array Value) (w : World) : (callFunc 6 args).run P w = .ok (.enter 6 args) w := by kernel_rfl

/-! ### evenhand / evenhandref19.New -/
def S7 (a0 a1 a2 a3 : Value) (ret : Value → C) (pn : Pn) : C :=
 nextS P (bltN .max #[3, 3] 3 #[false, true] #[a2, (Value.int IntKind.i64 1)]) (fun x12_1 =>
 nextS P (bltN .min #[3, 3] 3 #[false, true] #[x12_1, (Value.int IntKind.i64 32)]) (fun x13_2 =>
 nextS P (V (Instr.build 50 #[(0, a0), (1, a1), (2, x13_2), (3, a3)])) (fun x15_3 =>
 nextS P (V (Instr.box 50 x15_3)) (fun x16_4 =>
 ret x16_4) pn) pn) pn) pn
def mo7 : Nat → Mo := fun _ => .done
def lv7 : Nat → List Nat := fun _ => []
theorem ok7 : okC Tryz.f7.ntmps mo7 (Tryz.f7.body.getD .skip) = true := by kernel_rfl
theorem eq7 (a0 a1 a2 a3 : Value) (ret : Value → C) (pn : Pn) : D P mo7 lv7 pn (Tryz.f7.body.getD .skip) (finQ P Tryz.f7.results ret) (env0 [a0, a1, a2, a3]) = S7 a0 a1 a2 a3 ret pn := by kernel_rfl
theorem c7 {a0 a1 a2 a3 : Value} {R : Ending → World → Prop} {w : World} (h : S7 a0 a1 a2 a3 (fun v w => R (.returned v) w) (fun c w => R (.panicked c) w) w) : Calls P 7 #[a0, a1, a2, a3] w R :=
  callsD mixed mo7 lv7 Tryz.func7 rfl (Nat.le_of_ble_eq_true rfl) ok7 ((congrFun (eq7 a0 a1 a2 a3 _ _) w).mpr h)
theorem en7 (args : Array Value) (w : World) : (callFunc 7 args).run P w = .ok (.enter 7 args) w := by kernel_rfl

/-! ### evenhand / evenhandlaw19.ref -/
def S8_l2 (nx1 : List Value → C) (nx2 : List Value → C) (ret : Value → C) (pn : Pn) (e : Env) : C :=
 nextS P (V (Instr.fieldAt 24 (e 1) 0)) (fun x41_29 =>
 nextS P (V (Instr.loadAt 22 x41_29)) (fun x42_30 =>
 nextS P (V (Instr.indexAt 22 x42_30 (e 4))) (fun x44_31 =>
 nextS P (V (Instr.fieldAt 59 x44_31 4)) (fun x45_32 =>
 nextS P (V (Instr.loadAt 36 x45_32)) (fun x46_33 =>
 nextS P (bltN .len #[36] 3 #[false] #[x46_33]) (fun x47_34 =>
 nextS P (binN .lss 3 (Operand.tmp 40) (Operand.tmp 47) (e 6) x47_34) (fun x48_35 =>
 condS x48_35
 (nextS P (V (Instr.fieldAt 24 (e 1) 0)) (fun x51_36 =>
 nextS P (V (Instr.loadAt 22 x51_36)) (fun x52_37 =>
 nextS P (V (Instr.indexAt 22 x52_37 (e 4))) (fun x54_38 =>
 nextS P (V (Instr.fieldAt 59 x54_38 4)) (fun x55_39 =>
 nextS P (V (Instr.loadAt 36 x55_39)) (fun x56_40 =>
 nextS P (V (Instr.indexAt 36 x56_40 (e 6))) (fun x58_41 =>
 nextS P (V (Instr.loadAt 69 x58_41)) (fun x59_42 =>
 nextS P (V (Instr.alloc 69 true (.tuple #[]))) (fun x7_43 =>
 nextS P (U (Instr.storeAt 69 x7_43 x59_42)) (fun _ =>
 nextS P (V (Instr.fieldAt 74 (e 5) 4)) (fun x60_45 =>
 nextS P (V (Instr.loadAt 41 x60_45)) (fun x61_46 =>
 nextS P (V (Instr.fieldAt 69 x7_43 0)) (fun x62_47 =>
 nextS P (V (Instr.loadAt 3 x62_47)) (fun x63_48 =>
 nextS P (V (Instr.fieldAt 69 x7_43 1)) (fun x64_49 =>
 nextS P (V (Instr.loadAt 3 x64_49)) (fun x65_50 =>
 nextS P (V (Instr.fieldAt 69 x7_43 2)) (fun x66_51 =>
 nextS P (V (Instr.loadAt 2 x66_51)) (fun x67_52 =>
 nextS P (V (Instr.build 75 #[(0, x63_48), (1, x65_50), (2, x67_52)])) (fun x68_53 =>
 nextS P (V (Instr.buildSlice 41 1 #[(0, x68_53)])) (fun x69_54 =>
 nextS P (bltN .append #[41, 41] 41 #[false, false] #[x61_46, x69_54]) (fun x70_55 =>
 nextS P (V (Instr.fieldAt 74 (e 5) 4)) (fun x71_56 =>
 nextS P (U (Instr.storeAt 41 x71_56 x70_55)) (fun _ =>
 nextS P (binN .add 3 (Operand.tmp 49) (Operand.const (Value.int IntKind.i64 1)) (e 6) (Value.int IntKind.i64 1)) (fun x50_58 =>
 nx2 [(e 1), (e 3), (e 4), (e 5), x50_58]) pn) pn) pn) pn) pn) pn) pn) pn) pn) pn) pn) pn) pn) pn) pn) pn) pn) pn) pn) pn) pn) pn) pn)
 (nextS P (V (Instr.loadAt 74 (e 5))) (fun x73_59 =>
 nextS P (V (Instr.buildSlice 34 1 #[(0, x73_59)])) (fun x74_60 =>
 nextS P (bltN .append #[34, 34] 34 #[false, false] #[(e 3), x74_60]) (fun x75_61 =>
 nextS P (binN .add 3 (Operand.tmp 13) (Operand.const (Value.int IntKind.i64 1)) (e 4) (Value.int IntKind.i64 1)) (fun x14_62 =>
 nx1 [(e 1), x75_61, x14_62]) pn) pn) pn) pn)) pn) pn) pn) pn) pn) pn) pn
def S8_l1 (nx1 : List Value → C) (ret : Value → C) (pn : Pn) (e : Env) : C :=
 nextS P (V (Instr.fieldAt 24 (e 1) 0)) (fun x9_2 =>
 nextS P (V (Instr.loadAt 22 x9_2)) (fun x10_3 =>
 nextS P (bltN .len #[22] 3 #[false] #[x10_3]) (fun x11_4 =>
 nextS P (binN .lss 3 (Operand.tmp 8) (Operand.tmp 11) (e 4) x11_4) (fun x12_5 =>
 condS x12_5
 (DrawS fun S =>
 pureS P (V (Instr.fieldAt 24 (e 1) 0)) fun x15_6 =>
 takeS S P (V (Instr.loadAt 22 x15_6)) fun x16_7 =>
 pureS P (V (Instr.indexAt 22 x16_7 (e 4))) fun x18_8 =>
 pureS P (V (Instr.fieldAt 59 x18_8 0)) fun x19_9 =>
 takeS S P (V (Instr.loadAt 9 x19_9)) fun x20_10 =>
 pureS P (V (Instr.fieldAt 24 (e 1) 0)) fun x21_11 =>
 takeS S P (V (Instr.loadAt 22 x21_11)) fun x22_12 =>
 pureS P (V (Instr.indexAt 22 x22_12 (e 4))) fun x24_13 =>
 pureS P (V (Instr.fieldAt 59 x24_13 1)) fun x25_14 =>
 takeS S P (V (Instr.loadAt 3 x25_14)) fun x26_15 =>
 pureS P (V (Instr.fieldAt 24 (e 1) 0)) fun x27_16 =>
 takeS S P (V (Instr.loadAt 22 x27_16)) fun x28_17 =>
 pureS P (V (Instr.indexAt 22 x28_17 (e 4))) fun x30_18 =>
 pureS P (V (Instr.fieldAt 59 x30_18 2)) fun x31_19 =>
 takeS S P (V (Instr.loadAt 3 x31_19)) fun x32_20 =>
 pureS P (V (Instr.fieldAt 24 (e 1) 0)) fun x33_21 =>
 takeS S P (V (Instr.loadAt 22 x33_21)) fun x34_22 =>
 pureS P (V (Instr.indexAt 22 x34_22 (e 4))) fun x36_23 =>
 pureS P (V (Instr.fieldAt 59 x36_23 3)) fun x37_24 =>
 takeS S P (V (Instr.loadAt 3 x37_24)) fun x38_25 =>
 pureS P (V (Instr.build 74 #[(0, x20_10), (1, x26_15), (2, x32_20), (3, x38_25)])) fun x39_26 =>
 nextS P (V (Instr.alloc 74 true (.tuple #[]))) (fun x5_27 w => S w ∧ (nextS P (U (Instr.storeAt 74 x5_27 x39_26)) (fun _ w => S w ∧ (LoopS [(e 1), (e 3), (e 4), x5_27, (Value.int IntKind.i64 0)] [1, 3, 4, 5, 6] fun nx2 e => S8_l2 nx1 nx2 ret pn e) w) pn) w) pn)
 (ret (e 3))) pn) pn) pn) pn
def S8 (a0 : Value) (ret : Value → C) (pn : Pn) : C :=
 nextS P (V (Instr.box 24 a0)) (fun x1_1 =>
 LoopS [x1_1, (Value.slice none 0 0), (Value.int IntKind.i64 0)] [1, 3, 4] fun nx1 e => S8_l1 nx1 ret pn e) pn
def mo8 : Nat → Mo
  | 5 => (Mo.take 0 (Mo.take 1 (Mo.take 2 (Mo.take 3 (Mo.take 4 (Mo.take 5 (Mo.take 6 (Mo.take 7 (Mo.take 8 (Mo.take 9 (Mo.take 10 (Mo.take 11 (Mo.take 12 (Mo.take 13 (Mo.take 14 (Mo.take 15 (Mo.take 16 (Mo.take 17 (Mo.take 18 (Mo.take 19 (Mo.take 20 (Mo.take 21 (Mo.take 22 (Mo.take 23 (Mo.take 24 (Mo.eff 25 (Mo.eff 26 Mo.done)))))))))))))))))))))))))))
  | _ => .done
def lv8 : Nat → List Nat
  | 3 => [1, 3, 4]
  | 7 => [1, 3, 4, 5, 6]
  | _ => []
theorem ok8 : okC Tryz.f8.ntmps mo8 (Tryz.f8.body.getD .skip) = true := by kernel_rfl
theorem eq8 (a0 : Value) (ret : Value → C) (pn : Pn) : D P mo8 lv8 pn (Tryz.f8.body.getD .skip) (finQ P Tryz.f8.results ret) (env0 [a0]) = S8 a0 ret pn := by kernel_rfl
theorem c8 {a0 : Value} {R : Ending → World → Prop} {w : World} (h : S8 a0 (fun v w => R (.returned v) w) (fun c w => R (.panicked c) w) w) : Calls P 8 #[a0] w R :=
  callsD mixed mo8 lv8 Tryz.func8 rfl (Nat.le_of_ble_eq_true rfl) ok8 ((congrFun (eq8 a0 _ _) w).mpr h)
theorem en8 (args : Array Value) (w : World) : (callFunc 8 args).run P w = .ok (.enter 8 args) w := by kernel_rfl

/-! ### (*evenhand / tier.Manager).Enter -/
def S9_k1 (ret : Value → C) (pn : Pn) (y0 y1 y8 y9 : Value) : C :=
 nextS P (nilN y0) (fun x81_31 =>
 nextS P (V (Instr.fieldAt 66 x81_31 0)) (fun x82_32 =>
 nextS P (V (Instr.loadAt 60 x82_32)) (fun x83_33 =>
 callS P 21 #[x83_33, y1] (fun x85_34 =>
 nextS P (V (Instr.extract x85_34 0)) (fun x86_35 =>
 nextS P (V (Instr.extract x85_34 1)) (fun x87_36 =>
 nextS P (nilN y0) (fun x90_37 =>
 nextS P (V (Instr.fieldAt 66 x90_37 5)) (fun x91_38 =>
 nextS P (V (Instr.loadAt 63 x91_38)) (fun x92_39 =>
 nextS P (V (Instr.lookup 63 x92_39 y1 true)) (fun x94_40 =>
 nextS P (V (Instr.extract x94_40 0)) (fun x95_41 =>
 nextS P (V (Instr.extract x94_40 1)) (fun x96_42 =>
 nextS P (V (Instr.alloc 86 true (.tuple #[]))) (fun x13_43 =>
 nextS P (U (Instr.storeAt 86 x13_43 x95_41)) (fun _ =>
 nextS P (V (Op.unary .not x87_36)) (fun x99_45 =>
 condS x99_45
 (ret (.tuple #[(Value.slice none 0 0), (Value.bool false), y8]))
 (DrawS fun S =>
 grdS x96_42 true (fun K => K y9) fun x104_46 =>
 grdS x96_42 true (pureS P (V (Instr.fieldAt 86 x13_43 0))) fun x105_47 =>
 grdS x96_42 true (takeS S P (V (Instr.loadAt 3 x105_47))) fun x106_48 =>
 grdS x96_42 true (pureS P (V (Instr.indexAt 26 x104_46 x106_48))) fun x107_49 =>
 grdS x96_42 true (takeS S P (V (Instr.loadAt 2 x107_49))) fun x108_50 =>
 grdS x96_42 true (pureS P (V (Instr.fieldAt 86 x13_43 1))) fun x109_51 =>
 grdS x96_42 true (takeS S P (V (Instr.loadAt 2 x109_51))) fun x110_52 =>
 grdS x96_42 true (pureS P (binN .neq 2 (Operand.tmp 108) (Operand.tmp 110) x108_50 x110_52)) fun x111_53 =>
 pureS P (pickN x96_42 x111_53 (Value.bool false)) fun x112_54 =>
 condS x112_54
 (callS P 26 #[y0, (Value.int IntKind.i64 3), y1] (fun x115_55 =>
 nextS P (binN .add 2 (Operand.tmp 116) (Operand.const (Value.int IntKind.i64 50)) y8 (Value.int IntKind.i64 50)) (fun x117_56 =>
 ret (.tuple #[(Value.slice none 0 0), (Value.bool false), x117_56])) pn) pn)
 (callS P 26 #[y0, (Value.int IntKind.i64 2), y1] (fun x120_57 =>
 ret (.tuple #[x86_35, (Value.bool true), y8])) pn))) pn) pn) pn) pn) pn) pn) pn) pn) pn) pn) pn) pn) pn) pn) pn
def S9 (a0 a1 a2 : Value) (ret : Value → C) (pn : Pn) : C :=
 nextS P (binN .lss 3 (Operand.tmp 15) (Operand.const (Value.int IntKind.i64 1)) a1 (Value.int IntKind.i64 1)) (fun x16_1 =>
 grdS x16_1 false (fun K => K a1) fun x18_2 =>
 grdS x16_1 false (fun K => K a0) fun x19_3 =>
 grdS x16_1 false (fun K => nextS P (nilN x19_3) K pn) fun x20_4 =>
 grdS x16_1 false (fun K => nextS P (V (Instr.fieldAt 66 x20_4 1)) K pn) fun x21_5 =>
 grdS x16_1 false (fun K => nextS P (V (Instr.fieldAt 24 x21_5 0)) K pn) fun x22_6 =>
 grdS x16_1 false (fun K => nextS P (V (Instr.loadAt 22 x22_6)) K pn) fun x23_7 =>
 grdS x16_1 false (fun K => nextS P (bltN .len #[22] 3 #[false] #[x23_7]) K pn) fun x24_8 =>
 grdS x16_1 false (fun K => nextS P (binN .geq 3 (Operand.tmp 18) (Operand.tmp 24) x18_2 x24_8) K pn) fun x25_9 =>
 nextS P (pickN x16_1 (Value.bool true) x25_9) (fun x26_10 =>
 condS x26_10
 (ret (.tuple #[(Value.slice none 0 0), (Value.bool false), (Value.int IntKind.i64 0)]))
 (callS P 19 #[a0, a1, a2] (fun x30_11 =>
 nextS P (nilN a0) (fun x32_12 =>
 nextS P (V (Instr.fieldAt 66 x32_12 4)) (fun x33_13 =>
 nextS P (V (Instr.loadAt 64 x33_13)) (fun x34_14 =>
 callS P 20 #[x34_14, a1, x30_11] (fun x37_15 =>
 nextS P (nilN a0) (fun x40_16 =>
 nextS P (V (Instr.fieldAt 66 x40_16 0)) (fun x41_17 =>
 nextS P (V (Instr.loadAt 60 x41_17)) (fun x42_18 =>
 callS P 21 #[x42_18, a1] (fun x44_19 =>
 nextS P (V (Instr.extract x44_19 0)) (fun x45_20 =>
 nextS P (V (Instr.extract x44_19 1)) (fun x46_21 =>
 callS P 22 #[a0] (fun x48_22 =>
 nextS P (binN .eql 2 (Operand.tmp 50) (Operand.const (Value.int IntKind.i64 1)) x48_22 (Value.int IntKind.i64 1)) (fun x51_23 =>
 grdS x51_23 false (fun K => K x48_22) fun x53_24 =>
 grdS x51_23 false (fun K => nextS P (binN .eql 2 (Operand.tmp 53) (Operand.const (Value.int IntKind.i64 2)) x53_24 (Value.int IntKind.i64 2)) K pn) fun x54_25 =>
 nextS P (pickN x51_23 (Value.bool true) x54_25) (fun x55_26 =>
 grdS x55_26 true (fun K => K x46_21) fun x57_27 =>
 grdS x55_26 true (fun K => nextS P (V (Op.unary .not x57_27)) K pn) fun x58_28 =>
 nextS P (pickN x55_26 x58_28 (Value.bool false)) (fun x59_29 =>
 condS x59_29
 (callS P 23 #[a0, a1, x48_22] (fun x63_30 =>
 S9_k1 ret pn a0 a1 x63_30 x30_11) pn)
 (nextS P (binN .eql 2 (Operand.tmp 65) (Operand.const (Value.int IntKind.i64 3)) x48_22 (Value.int IntKind.i64 3)) (fun x66_58 =>
 grdS x66_58 true (fun K => K x46_21) fun x68_59 =>
 nextS P (pickN x66_58 x68_59 (Value.bool false)) (fun x69_60 =>
 condS x69_60
 (nextS P (nilN a0) (fun x71_61 =>
 nextS P (V (Instr.fieldAt 66 x71_61 0)) (fun x72_62 =>
 nextS P (V (Instr.loadAt 60 x72_62)) (fun x73_63 =>
 callS P 24 #[x73_63, a1] (fun x75_64 =>
 callS P 25 #[a0, a1] (fun x78_65 =>
 S9_k1 ret pn a0 a1 (Value.int IntKind.i64 0) x30_11) pn) pn) pn) pn) pn)
 (S9_k1 ret pn a0 a1 (Value.int IntKind.i64 0) x30_11)) pn) pn)) pn) pn) pn) pn) pn) pn) pn) pn) pn) pn) pn) pn) pn) pn) pn)) pn) pn
def mo9 : Nat → Mo
  | 16 => (Mo.take 0 (Mo.take 1 (Mo.take 2 (Mo.take 3 (Mo.take 4 (Mo.take 5 (Mo.take 6 (Mo.take 7 (Mo.take 8 (Mo.take 9 (Mo.take 10 (Mo.take 11 Mo.done))))))))))))
  | _ => .done
def lv9 : Nat → List Nat := fun _ => []
theorem ok9 : okC Tryz.f9.ntmps mo9 (Tryz.f9.body.getD .skip) = true := by kernel_rfl
theorem eq9 (a0 a1 a2 : Value) (ret : Value → C) (pn : Pn) : D P mo9 lv9 pn (Tryz.f9.body.getD .skip) (finQ P Tryz.f9.results ret) (env0 [a0, a1, a2]) = S9 a0 a1 a2 ret pn := by kernel_rfl
theorem c9 {a0 a1 a2 : Value} {R : Ending → World → Prop} {w : World} (h : S9 a0 a1 a2 (fun v w => R (.returned v) w) (fun c w => R (.panicked c) w) w) : Calls P 9 #[a0, a1, a2] w R :=
  callsD mixed mo9 lv9 Tryz.func9 rfl (Nat.le_of_ble_eq_true rfl) ok9 ((congrFun (eq9 a0 a1 a2 _ _) w).mpr h)
theorem en9 (args : Array Value) (w : World) : (callFunc 9 args).run P w = .ok (.enter 9 args) w := by kernel_rfl

end Go.Proofs.YtkonigmefmgepaaGreatDoor
