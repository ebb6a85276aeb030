/- The shallow forms of the loaded functions, written by wip/gen.py out of the print of the loaded program: no idea stands in it. -/
import Derived.Test.YtkonigmefmgepaaDoorFwA
import Derived.Test.YtkonigmefmgepaaDoorProg
namespace Go.Proofs.YtkonigmefmgepaaDoor
noncomputable abbrev P : Program := Tryd.prog
theorem mixed : P.follows .mixedOrders = true := by kernel_rfl
set_option maxRecDepth 100000
set_option linter.unusedVariables false
/-! ### evenhand / evenhandlaw19.TierPublic -/
def S3_k3 (nx2 : List Value → C) (ret : Value → C) (pn : Pn) (y1 y4 y11 y12 y13 y14 y15 y16 y17 : Value) : C :=
 nextS P (V (Instr.buildSlice 26 1 #[(0, y17)])) (fun x138_78 =>
 nextS P (bltN .append #[26, 26] 26 #[false, false] #[y15, x138_78]) (fun x139_79 =>
 nextS P (binN .add 3 (Operand.tmp 75) (Operand.const (Value.int IntKind.i64 1)) y16 (Value.int IntKind.i64 1)) (fun x76_80 =>
 nx2 [y1, y4, y11, y12, y13, y14, x139_79, x76_80]) pn) pn) pn
def S3_l2 (nx1 : List Value → C) (nx2 : List Value → C) (ret : Value → C) (pn : Pn) (e : Env) : C :=
 nextS P (V (Instr.indexAt 27 (e 4) (e 14))) (fun x66_25 =>
 nextS P (V (Instr.fieldAt 33 x66_25 1)) (fun x67_26 =>
 nextS P (V (Instr.loadAt 26 x67_26)) (fun x68_27 =>
 nextS P (bltN .len #[26] 3 #[false] #[x68_27]) (fun x69_28 =>
 nextS P (binN .lss 3 (Operand.tmp 63) (Operand.tmp 69) (e 16) x69_28) (fun x70_29 =>
 grdS x70_29 true (fun K => K (e 16)) fun x72_30 =>
 grdS x70_29 true (fun K => nextS P (binN .lss 3 (Operand.tmp 72) (Operand.const (Value.int IntKind.i64 20)) x72_30 (Value.int IntKind.i64 20)) K pn) fun x73_31 =>
 nextS P (pickN x70_29 x73_31 (Value.bool false)) (fun x74_32 =>
 condS x74_32
 (nextS P (V (Instr.indexAt 27 (e 4) (e 14))) (fun x79_33 =>
 nextS P (V (Instr.fieldAt 33 x79_33 1)) (fun x80_34 =>
 nextS P (V (Instr.loadAt 26 x80_34)) (fun x81_35 =>
 nextS P (V (Instr.indexAt 26 x81_35 (e 16))) (fun x83_36 =>
 nextS P (V (Instr.loadAt 2 x83_36)) (fun x84_37 =>
 nextS P (V (Instr.indexAt 27 (e 4) (e 14))) (fun x87_38 =>
 nextS P (V (Instr.fieldAt 33 x87_38 0)) (fun x88_39 =>
 nextS P (V (Instr.loadAt 3 x88_39)) (fun x89_40 =>
 nextS P (binN .geq 3 (Operand.tmp 90) (Operand.const (Value.int IntKind.i64 0)) x89_40 (Value.int IntKind.i64 0)) (fun x91_41 =>
 grdS x91_41 true (fun K => K x89_40) fun x93_42 =>
 grdS x91_41 true (fun K => K (e 1)) fun x94_43 =>
 grdS x91_41 true (fun K => nextS P (bltN .len #[25] 3 #[false] #[x94_43]) K pn) fun x95_44 =>
 grdS x91_41 true (fun K => nextS P (binN .lss 3 (Operand.tmp 93) (Operand.tmp 95) x93_42 x95_44) K pn) fun x96_45 =>
 nextS P (pickN x91_41 x96_45 (Value.bool false)) (fun x97_46 =>
 grdS x97_46 true (fun K => K (e 16)) fun x99_47 =>
 grdS x97_46 true (fun K => K (e 1)) fun x100_48 =>
 grdS x97_46 true (fun K => K x89_40) fun x101_49 =>
 grdS x97_46 true (fun K => nextS P (V (Instr.indexAt 25 x100_48 x101_49)) K pn) fun x102_50 =>
 grdS x97_46 true (fun K => nextS P (V (Instr.loadAt 34 x102_50)) K pn) fun x103_51 =>
 grdS x97_46 true (fun K => nextS P (bltN .len #[34] 3 #[false] #[x103_51]) K pn) fun x104_52 =>
 grdS x97_46 true (fun K => nextS P (binN .lss 3 (Operand.tmp 99) (Operand.tmp 104) x99_47 x104_52) K pn) fun x105_53 =>
 nextS P (pickN x97_46 x105_53 (Value.bool false)) (fun x106_54 =>
 grdS x106_54 true (fun K => K (e 1)) fun x108_55 =>
 grdS x106_54 true (fun K => K x89_40) fun x109_56 =>
 grdS x106_54 true (fun K => nextS P (V (Instr.indexAt 25 x108_55 x109_56)) K pn) fun x110_57 =>
 grdS x106_54 true (fun K => nextS P (V (Instr.loadAt 34 x110_57)) K pn) fun x111_58 =>
 grdS x106_54 true (fun K => K (e 16)) fun x112_59 =>
 grdS x106_54 true (fun K => nextS P (V (Instr.indexAt 34 x111_58 x112_59)) K pn) fun x113_60 =>
 grdS x106_54 true (fun K => nextS P (V (Instr.loadAt 4 x113_60)) K pn) fun x114_61 =>
 nextS P (pickN x106_54 x114_61 (Value.bool false)) (fun x115_62 =>
 nextS P (V (Op.unary .not x115_62)) (fun x117_63 =>
 grdS x117_63 true (fun K => K (e 16)) fun x119_64 =>
 grdS x117_63 true (fun K => K (e 4)) fun x120_65 =>
 grdS x117_63 true (fun K => K (e 14)) fun x121_66 =>
 grdS x117_63 true (fun K => nextS P (V (Instr.indexAt 27 x120_65 x121_66)) K pn) fun x122_67 =>
 grdS x117_63 true (fun K => nextS P (V (Instr.fieldAt 33 x122_67 2)) K pn) fun x123_68 =>
 grdS x117_63 true (fun K => nextS P (V (Instr.loadAt 26 x123_68)) K pn) fun x124_69 =>
 grdS x117_63 true (fun K => nextS P (bltN .len #[26] 3 #[false] #[x124_69]) K pn) fun x125_70 =>
 grdS x117_63 true (fun K => nextS P (binN .lss 3 (Operand.tmp 119) (Operand.tmp 125) x119_64 x125_70) K pn) fun x126_71 =>
 nextS P (pickN x117_63 x126_71 (Value.bool false)) (fun x127_72 =>
 condS x127_72
 (nextS P (V (Instr.indexAt 27 (e 4) (e 14))) (fun x130_73 =>
 nextS P (V (Instr.fieldAt 33 x130_73 2)) (fun x131_74 =>
 nextS P (V (Instr.loadAt 26 x131_74)) (fun x132_75 =>
 nextS P (V (Instr.indexAt 26 x132_75 (e 16))) (fun x134_76 =>
 nextS P (V (Instr.loadAt 2 x134_76)) (fun x135_77 =>
 S3_k3 nx2 ret pn (e 1) (e 4) (e 11) (e 12) (e 13) (e 14) (e 15) (e 16) x135_77) pn) pn) pn) pn) pn)
 (S3_k3 nx2 ret pn (e 1) (e 4) (e 11) (e 12) (e 13) (e 14) (e 15) (e 16) x84_37)) pn) pn) pn) pn) pn) pn) pn) pn) pn) pn) pn) pn) pn) pn)
 (DrawS fun S =>
 pureS P (V (Instr.indexAt 27 (e 4) (e 14))) fun x144_81 =>
 pureS P (V (Instr.fieldAt 33 x144_81 0)) fun x145_82 =>
 takeS S P (V (Instr.loadAt 3 x145_82)) fun x146_83 =>
 pureS P (V (Instr.indexAt 27 (e 4) (e 14))) fun x149_84 =>
 pureS P (V (Instr.fieldAt 33 x149_84 1)) fun x150_85 =>
 takeS S P (V (Instr.loadAt 26 x150_85)) fun x151_86 =>
 pureS P (V (Instr.indexAt 27 (e 4) (e 14))) fun x154_87 =>
 pureS P (V (Instr.fieldAt 33 x154_87 1)) fun x155_88 =>
 takeS S P (V (Instr.loadAt 26 x155_88)) fun x156_89 =>
 takeS S P (bltN .len #[26] 3 #[false] #[x156_89]) fun x157_90 =>
 takeS S P (bltN .min #[3, 3] 3 #[false, true] #[x157_90, (Value.int IntKind.i64 20)]) fun x158_91 =>
 pureS P (V (Instr.sliceAt 26 x151_86 none (some x158_91) none)) fun x159_92 =>
 callS P 12 #[(e 12), x146_83, x159_92] (fun x160_93 w => S w ∧ (pureS P (V (Instr.extract x160_93 0)) fun x161_94 =>
 pureS P (V (Instr.extract x160_93 1)) fun x162_95 =>
 pureS P (V (Instr.extract x160_93 2)) fun x163_96 =>
 nextS P (V (Instr.indexAt 27 (e 4) (e 14))) (fun x168_97 =>
 nextS P (V (Instr.fieldAt 33 x168_97 0)) (fun x169_98 =>
 nextS P (V (Instr.loadAt 3 x169_98)) (fun x170_99 =>
 callS P 12 #[(e 13), x170_99, (e 15)] (fun x172_100 =>
 nextS P (V (Instr.extract x172_100 0)) (fun x173_101 =>
 nextS P (V (Instr.extract x172_100 1)) (fun x174_102 =>
 nextS P (V (Instr.extract x172_100 2)) (fun x175_103 =>
 nextS P (binN .neq 4 (Operand.tmp 176) (Operand.tmp 177) x162_95 x174_102) (fun x178_104 =>
 grdS x178_104 false (fun K => K x163_96) fun x180_105 =>
 grdS x178_104 false (fun K => K x175_103) fun x181_106 =>
 grdS x178_104 false (fun K => nextS P (binN .neq 2 (Operand.tmp 180) (Operand.tmp 181) x180_105 x181_106) K pn) fun x182_107 =>
 nextS P (pickN x178_104 (Value.bool true) x182_107) (fun x183_108 =>
 grdS x183_108 false (fun K => K x161_94) fun x185_109 =>
 grdS x183_108 false (fun K => K x173_101) fun x186_110 =>
 grdS x183_108 false (fun K => callS P 13 #[x185_109, x186_110] K pn) fun x187_111 =>
 grdS x183_108 false (fun K => nextS P (V (Op.unary .not x187_111)) K pn) fun x188_112 =>
 nextS P (pickN x183_108 (Value.bool true) x188_112) (fun x189_113 =>
 condS x189_113
 (ret (Value.bool false))
 (nextS P (binN .add 3 (Operand.tmp 61) (Operand.const (Value.int IntKind.i64 1)) (e 14) (Value.int IntKind.i64 1)) (fun x62_114 =>
 nx1 [(e 1), (e 4), (e 11), (e 12), (e 13), x62_114]) pn)) pn) pn) pn) pn) pn) pn) pn) pn) pn) pn) w) pn)) pn) pn) pn) pn) pn) pn
def S3_l1 (nx1 : List Value → C) (ret : Value → C) (pn : Pn) (e : Env) : C :=
 nextS P (bltN .len #[27] 3 #[false] #[(e 4)]) (fun x55_20 =>
 nextS P (binN .lss 3 (Operand.tmp 53) (Operand.tmp 55) (e 14) x55_20) (fun x56_21 =>
 grdS x56_21 true (fun K => K (e 14)) fun x58_22 =>
 grdS x56_21 true (fun K => nextS P (binN .lss 3 (Operand.tmp 58) (Operand.const (Value.int IntKind.i64 100)) x58_22 (Value.int IntKind.i64 100)) K pn) fun x59_23 =>
 nextS P (pickN x56_21 x59_23 (Value.bool false)) (fun x60_24 =>
 condS x60_24
 (LoopS [(e 1), (e 4), (e 11), (e 12), (e 13), (e 14), (Value.slice none 0 0), (Value.int IntKind.i64 0)] [1, 4, 11, 12, 13, 14, 15, 16] fun nx2 e => S3_l2 nx1 nx2 ret pn e)
 (grdS (e 11) true (fun K => K (e 12)) fun x192_115 =>
 grdS (e 11) true (fun K => callS P 15 #[x192_115] K pn) fun x193_116 =>
 grdS (e 11) true (fun K => K (e 13)) fun x194_117 =>
 grdS (e 11) true (fun K => callS P 15 #[x194_117] K pn) fun x195_118 =>
 grdS (e 11) true (fun K => callS P 14 #[x193_116, x195_118] K pn) fun x196_119 =>
 nextS P (pickN (e 11) x196_119 (Value.bool false)) (fun x197_120 =>
 ret x197_120) pn)) pn) pn) pn
def S3 (a0 a1 a2 a3 a4 : Value) (ret : Value → C) (pn : Pn) : C :=
 nextS P (V (Instr.box 24 a0)) (fun x5_1 =>
 callS P 9 #[] (fun x26_2 =>
 nextS P (V (Instr.loadAt 24 x5_1)) (fun x27_3 =>
 callS P 10 #[x27_3] (fun x28_4 =>
 nextS P (U (Instr.storeAt 24 x5_1 x28_4)) (fun _ =>
 DrawS fun S =>
 takeS S P (V (Instr.loadAt 24 x5_1)) fun x29_6 =>
 takeS S P (bltN .len #[26] 3 #[false] #[a3]) fun x34_7 =>
 takeS S P (bltN .min #[3, 3] 3 #[false, true] #[x34_7, (Value.int IntKind.i64 200)]) fun x35_8 =>
 pureS P (V (Instr.sliceAt 26 a3 none (some x35_8) none)) fun x36_9 =>
 callS P 11 #[x29_6, a1, a2, x36_9] (fun x37_10 w => S w ∧ (DrawS fun S =>
 takeS S P (V (Instr.loadAt 24 x5_1)) fun x38_11 =>
 takeS S P (bltN .len #[26] 3 #[false] #[a3]) fun x43_12 =>
 takeS S P (bltN .min #[3, 3] 3 #[false, true] #[x43_12, (Value.int IntKind.i64 200)]) fun x44_13 =>
 pureS P (V (Instr.sliceAt 26 a3 none (some x44_13) none)) fun x45_14 =>
 callS P 11 #[x38_11, a1, a2, x45_14] (fun x46_15 w => S w ∧ (nextS P (binN .eql 30 (Operand.tmp 47) (Operand.const (Value.pointer none)) x37_10 (Value.pointer none)) (fun x48_16 =>
 grdS x48_16 false (fun K => K x46_15) fun x50_17 =>
 grdS x48_16 false (fun K => nextS P (binN .eql 30 (Operand.tmp 50) (Operand.const (Value.pointer none)) x50_17 (Value.pointer none)) K pn) fun x51_18 =>
 nextS P (pickN x48_16 (Value.bool true) x51_18) (fun x52_19 =>
 condS x52_19
 (ret (Value.bool false))
 (LoopS [a1, a4, x26_2, x37_10, x46_15, (Value.int IntKind.i64 0)] [1, 4, 11, 12, 13, 14] fun nx1 e => S3_l1 nx1 ret pn e)) pn) pn) w) pn) w) pn) pn) pn) pn) pn) pn
def mo3 : Nat → Mo
  | 3 => (Mo.take 0 (Mo.take 1 (Mo.take 2 (Mo.take 3 (Mo.take 4 (Mo.take 5 (Mo.take 6 (Mo.take 7 (Mo.eff 8 (Mo.take 9 Mo.done))))))))))
  | 4 => (Mo.take 0 (Mo.take 1 (Mo.take 2 (Mo.take 3 (Mo.take 4 (Mo.take 5 (Mo.take 6 (Mo.take 7 (Mo.eff 8 (Mo.take 9 Mo.done))))))))))
  | 20 => (Mo.take 0 (Mo.take 1 (Mo.take 2 (Mo.take 3 (Mo.take 4 (Mo.take 5 (Mo.take 6 (Mo.take 7 (Mo.take 8 (Mo.take 9 (Mo.take 10 (Mo.take 11 (Mo.take 12 (Mo.take 13 (Mo.take 14 (Mo.take 15 (Mo.take 16 (Mo.take 17 (Mo.take 18 (Mo.eff 19 (Mo.take 20 (Mo.take 21 (Mo.take 22 (Mo.take 23 (Mo.take 24 (Mo.take 25 (Mo.take 26 Mo.done)))))))))))))))))))))))))))
  | _ => .done
def lv3 : Nat → List Nat
  | 8 => [1, 4, 11, 12, 13, 14]
  | 12 => [1, 4, 11, 12, 13, 14, 15, 16]
  | _ => []
theorem ok3 : okC Tryd.f3.ntmps mo3 (Tryd.f3.body.getD .skip) = true := by kernel_rfl
theorem eq3 (a0 a1 a2 a3 a4 : Value) (ret : Value → C) (pn : Pn) : D P mo3 lv3 pn (Tryd.f3.body.getD .skip) (finQ P Tryd.f3.results ret) (env0 [a0, a1, a2, a3, a4]) = S3 a0 a1 a2 a3 a4 ret pn := by kernel_rfl
theorem c3 {a0 a1 a2 a3 a4 : Value} {R : Ending → World → Prop} {w : World} (h : S3 a0 a1 a2 a3 a4 (fun v w => R (.returned v) w) (fun c w => R (.panicked c) w) w) : Calls P 3 #[a0, a1, a2, a3, a4] w R :=
  callsD mixed mo3 lv3 Tryd.func3 rfl (Nat.le_of_ble_eq_true rfl) ok3 ((congrFun (eq3 a0 a1 a2 a3 a4 _ _) w).mpr h)
theorem en3 (args : Array Value) (w : World) : (callFunc 3 args).run P w = .ok (.enter 3 args) w := by kernel_rfl

/-! ### evenhand / evenhandlaw19.TierSkips -/
def S4_k2 (nx1 : List Value → C) (ret : Value → C) (pn : Pn) (y1 y2 y3 y4 y5 y11 y12 y13 : Value) : C :=
 nextS P (binN .add 3 (Operand.tmp 28) (Operand.const (Value.int IntKind.i64 1)) y13 (Value.int IntKind.i64 1)) (fun x29_21 =>
 nx1 [y1, y2, y3, y4, y5, y11, y12, x29_21]) pn
def S4_l3 (nx3 : List Value → C) (ret : Value → C) (pn : Pn) (e : Env) : C :=
 nextS P (bltN .len #[27] 3 #[false] #[(e 4)]) (fun x59_26 =>
 nextS P (binN .lss 3 (Operand.tmp 57) (Operand.tmp 59) (e 15) x59_26) (fun x60_27 =>
 grdS x60_27 true (fun K => K (e 15)) fun x62_28 =>
 grdS x60_27 true (fun K => nextS P (binN .lss 3 (Operand.tmp 62) (Operand.const (Value.int IntKind.i64 100)) x62_28 (Value.int IntKind.i64 100)) K pn) fun x63_29 =>
 nextS P (pickN x60_27 x63_29 (Value.bool false)) (fun x64_30 =>
 condS x64_30
 (DrawS fun S =>
 pureS P (V (Instr.indexAt 27 (e 4) (e 15))) fun x71_31 =>
 pureS P (V (Instr.fieldAt 33 x71_31 0)) fun x72_32 =>
 takeS S P (V (Instr.loadAt 3 x72_32)) fun x73_33 =>
 pureS P (V (Instr.indexAt 27 (e 4) (e 15))) fun x76_34 =>
 pureS P (V (Instr.fieldAt 33 x76_34 1)) fun x77_35 =>
 takeS S P (V (Instr.loadAt 26 x77_35)) fun x78_36 =>
 callS P 12 #[(e 14), x73_33, x78_36] (fun x79_37 w => S w ∧ (pureS P (V (Instr.extract x79_37 0)) fun x80_38 =>
 pureS P (V (Instr.extract x79_37 1)) fun x81_39 =>
 pureS P (V (Instr.extract x79_37 2)) fun x82_40 =>
 nextS P (bltN .len #[35] 3 #[false] #[x80_38]) (fun x84_41 =>
 nextS P (binN .neq 3 (Operand.tmp 84) (Operand.const (Value.int IntKind.i64 0)) x84_41 (Value.int IntKind.i64 0)) (fun x85_42 =>
 grdS x85_42 false (fun K => K x81_39) fun x87_43 =>
 nextS P (pickN x85_42 (Value.bool true) x87_43) (fun x88_44 =>
 grdS x88_44 false (fun K => K x82_40) fun x90_45 =>
 grdS x88_44 false (fun K => nextS P (binN .neq 2 (Operand.tmp 90) (Operand.const (Value.int IntKind.i64 0)) x90_45 (Value.int IntKind.i64 0)) K pn) fun x91_46 =>
 nextS P (pickN x88_44 (Value.bool true) x91_46) (fun x92_47 =>
 condS x92_47
 (ret (Value.bool false))
 (nextS P (binN .add 3 (Operand.tmp 65) (Operand.const (Value.int IntKind.i64 1)) (e 15) (Value.int IntKind.i64 1)) (fun x66_48 =>
 nx3 [(e 4), (e 11), (e 14), x66_48]) pn)) pn) pn) pn) pn) w) pn)
 (grdS (e 11) true (fun K => K (e 14)) fun x95_49 =>
 grdS (e 11) true (fun K => callS P 15 #[x95_49] K pn) fun x96_50 =>
 grdS (e 11) true (fun K => nextS P (bltN .len #[40] 3 #[false] #[x96_50]) K pn) fun x97_51 =>
 grdS (e 11) true (fun K => nextS P (binN .eql 3 (Operand.tmp 97) (Operand.const (Value.int IntKind.i64 0)) x97_51 (Value.int IntKind.i64 0)) K pn) fun x98_52 =>
 nextS P (pickN (e 11) x98_52 (Value.bool false)) (fun x99_53 =>
 ret x99_53) pn)) pn) pn) pn
def S4_l1 (nx1 : List Value → C) (ret : Value → C) (pn : Pn) (e : Env) : C :=
 nextS P (bltN .len #[26] 3 #[false] #[(e 3)]) (fun x22_3 =>
 nextS P (binN .lss 3 (Operand.tmp 20) (Operand.tmp 22) (e 13) x22_3) (fun x23_4 =>
 grdS x23_4 true (fun K => K (e 13)) fun x25_5 =>
 grdS x23_4 true (fun K => nextS P (binN .lss 3 (Operand.tmp 25) (Operand.const (Value.int IntKind.i64 200)) x25_5 (Value.int IntKind.i64 200)) K pn) fun x26_6 =>
 nextS P (pickN x23_4 x26_6 (Value.bool false)) (fun x27_7 =>
 condS x27_7
 (nextS P (V (Instr.indexAt 26 (e 3) (e 13))) (fun x32_8 =>
 nextS P (V (Instr.loadAt 2 x32_8)) (fun x33_9 =>
 nextS P (binN .lss 2 (Operand.tmp 33) (Operand.const (Value.int IntKind.i64 1)) x33_9 (Value.int IntKind.i64 1)) (fun x34_10 =>
 grdS x34_10 false (fun K => K (e 3)) fun x36_11 =>
 grdS x34_10 false (fun K => K (e 13)) fun x37_12 =>
 grdS x34_10 false (fun K => nextS P (V (Instr.indexAt 26 x36_11 x37_12)) K pn) fun x38_13 =>
 grdS x34_10 false (fun K => nextS P (V (Instr.loadAt 2 x38_13)) K pn) fun x39_14 =>
 grdS x34_10 false (fun K => nextS P (binN .gtr 2 (Operand.tmp 39) (Operand.const (Value.int IntKind.i64 3)) x39_14 (Value.int IntKind.i64 3)) K pn) fun x40_15 =>
 nextS P (pickN x34_10 (Value.bool true) x40_15) (fun x41_16 =>
 condS x41_16
 (nextS P (V (Instr.indexAt 26 (e 3) (e 13))) (fun x45_17 =>
 nextS P (V (Instr.loadAt 2 x45_17)) (fun x46_18 =>
 nextS P (V (Instr.buildSlice 26 1 #[(0, x46_18)])) (fun x47_19 =>
 nextS P (bltN .append #[26, 26] 26 #[false, false] #[(e 12), x47_19]) (fun x48_20 =>
 S4_k2 nx1 ret pn (e 1) (e 2) (e 3) (e 4) (e 5) (e 11) x48_20 (e 13)) pn) pn) pn) pn)
 (S4_k2 nx1 ret pn (e 1) (e 2) (e 3) (e 4) (e 5) (e 11) (e 12) (e 13))) pn) pn) pn) pn)
 (nextS P (V (Instr.loadAt 24 (e 5))) (fun x49_22 =>
 callS P 10 #[x49_22] (fun x50_23 =>
 callS P 11 #[x50_23, (e 1), (e 2), (e 12)] (fun x54_24 =>
 nextS P (binN .eql 30 (Operand.tmp 55) (Operand.const (Value.pointer none)) x54_24 (Value.pointer none)) (fun x56_25 =>
 condS x56_25
 (ret (Value.bool false))
 (LoopS [(e 4), (e 11), x54_24, (Value.int IntKind.i64 0)] [4, 11, 14, 15] fun nx3 e => S4_l3 nx3 ret pn e)) pn) pn) pn) pn)) pn) pn) pn
def S4 (a0 a1 a2 a3 a4 : Value) (ret : Value → C) (pn : Pn) : C :=
 nextS P (V (Instr.box 24 a0)) (fun x5_1 =>
 callS P 9 #[] (fun x19_2 =>
 LoopS [a1, a2, a3, a4, x5_1, x19_2, (Value.slice none 0 0), (Value.int IntKind.i64 0)] [1, 2, 3, 4, 5, 11, 12, 13] fun nx1 e => S4_l1 nx1 ret pn e) pn) pn
def mo4 : Nat → Mo
  | 14 => (Mo.take 0 (Mo.take 1 (Mo.take 2 (Mo.take 3 (Mo.take 4 (Mo.take 5 (Mo.take 6 (Mo.take 7 (Mo.take 8 (Mo.take 9 (Mo.take 10 (Mo.eff 11 (Mo.take 12 (Mo.take 13 (Mo.take 14 (Mo.take 15 (Mo.take 16 (Mo.take 17 (Mo.take 18 Mo.done)))))))))))))))))))
  | _ => .done
def lv4 : Nat → List Nat
  | 4 => [1, 2, 3, 4, 5, 11, 12, 13]
  | 12 => [4, 11, 14, 15]
  | _ => []
theorem ok4 : okC Tryd.f4.ntmps mo4 (Tryd.f4.body.getD .skip) = true := by kernel_rfl
theorem eq4 (a0 a1 a2 a3 a4 : Value) (ret : Value → C) (pn : Pn) : D P mo4 lv4 pn (Tryd.f4.body.getD .skip) (finQ P Tryd.f4.results ret) (env0 [a0, a1, a2, a3, a4]) = S4 a0 a1 a2 a3 a4 ret pn := by kernel_rfl
theorem c4 {a0 a1 a2 a3 a4 : Value} {R : Ending → World → Prop} {w : World} (h : S4 a0 a1 a2 a3 a4 (fun v w => R (.returned v) w) (fun c w => R (.panicked c) w) w) : Calls P 4 #[a0, a1, a2, a3, a4] w R :=
  callsD mixed mo4 lv4 Tryd.func4 rfl (Nat.le_of_ble_eq_true rfl) ok4 ((congrFun (eq4 a0 a1 a2 a3 a4 _ _) w).mpr h)
theorem en4 (args : Array Value) (w : World) : (callFunc 4 args).run P w = .ok (.enter 4 args) w := by kernel_rfl

/-! ### evenhand / evenhandlaw19.TierCharges -/
def S5_k3 (nx2 : List Value → C) (ret : Value → C) (pn : Pn) (y4 y5 y11 y12 y13 y15 y16 y17 y18 y19 y20 y21 : Value) : C :=
 nextS P (binN .add 3 (Operand.tmp 84) (Operand.const (Value.int IntKind.i64 1)) y21 (Value.int IntKind.i64 1)) (fun x85_81 =>
 nx2 [y4, y5, y11, y12, y13, y15, y16, y17, y18, y19, y20, x85_81]) pn
def S5_l2 (nx1 : List Value → C) (nx2 : List Value → C) (ret : Value → C) (pn : Pn) (e : Env) : C :=
 nextS P (bltN .len #[40] 3 #[false] #[(e 18)]) (fun x82_38 =>
 nextS P (binN .lss 3 (Operand.tmp 80) (Operand.tmp 82) (e 21) x82_38) (fun x83_39 =>
 condS x83_39
 (nextS P (V (Instr.indexAt 40 (e 18) (e 21))) (fun x88_40 =>
 nextS P (V (Instr.loadAt 44 x88_40)) (fun x89_41 =>
 nextS P (V (Instr.alloc 44 true (.tuple #[]))) (fun x22_42 =>
 nextS P (U (Instr.storeAt 44 x22_42 x89_41)) (fun _ =>
 DrawS fun S =>
 pureS P (V (Instr.fieldAt 44 x22_42 1)) fun x90_44 =>
 takeS S P (V (Instr.loadAt 3 x90_44)) fun x91_45 =>
 pureS P (binN .lss 3 (Operand.tmp 91) (Operand.const (Value.int IntKind.i64 1)) x91_45 (Value.int IntKind.i64 1)) fun x92_46 =>
 grdS x92_46 false (pureS P (V (Instr.fieldAt 44 x22_42 1))) fun x94_47 =>
 grdS x92_46 false (takeS S P (V (Instr.loadAt 3 x94_47))) fun x95_48 =>
 grdS x92_46 false (pureS P (V (Instr.fieldAt 24 (e 5) 0))) fun x96_49 =>
 grdS x92_46 false (takeS S P (V (Instr.loadAt 22 x96_49))) fun x97_50 =>
 grdS x92_46 false (takeS S P (bltN .len #[22] 3 #[false] #[x97_50])) fun x98_51 =>
 grdS x92_46 false (pureS P (binN .geq 3 (Operand.tmp 95) (Operand.tmp 98) x95_48 x98_51)) fun x99_52 =>
 pureS P (pickN x92_46 (Value.bool true) x99_52) fun x100_53 =>
 grdS x100_53 false (pureS P (V (Instr.fieldAt 44 x22_42 0))) fun x102_54 =>
 grdS x100_53 false (takeS S P (V (Instr.loadAt 3 x102_54))) fun x103_55 =>
 grdS x100_53 false (pureS P (binN .neq 3 (Operand.tmp 103) (Operand.const (Value.int IntKind.i64 4)) x103_55 (Value.int IntKind.i64 4))) fun x104_56 =>
 grdS x100_53 false (fun K => K x104_56) fun x105_57 =>
 grdS x105_57 true (pureS P (V (Instr.fieldAt 44 x22_42 1))) fun x106_58 =>
 grdS x105_57 true (takeS S P (V (Instr.loadAt 3 x106_58))) fun x107_59 =>
 grdS x105_57 true (fun K => K (e 4)) fun x108_60 =>
 grdS x105_57 true (fun K => K (e 13)) fun x109_61 =>
 grdS x105_57 true (pureS P (V (Instr.indexAt 27 x108_60 x109_61))) fun x110_62 =>
 grdS x105_57 true (pureS P (V (Instr.fieldAt 33 x110_62 0))) fun x111_63 =>
 grdS x105_57 true (takeS S P (V (Instr.loadAt 3 x111_63))) fun x112_64 =>
 grdS x105_57 true (pureS P (binN .neq 3 (Operand.tmp 107) (Operand.tmp 112) x107_59 x112_64)) fun x113_65 =>
 grdS x100_53 false (pureS P (pickN x105_57 x113_65 (Value.bool false))) fun x114_66 =>
 pureS P (pickN x100_53 (Value.bool true) x114_66) fun x115_67 =>
 condS x115_67
 (ret (Value.bool false))
 (nextS P (V (Instr.fieldAt 44 x22_42 0)) (fun x116_68 =>
 nextS P (V (Instr.loadAt 3 x116_68)) (fun x117_69 =>
 nextS P (binN .eql 3 (Operand.tmp 117) (Operand.const (Value.int IntKind.i64 1)) x117_69 (Value.int IntKind.i64 1)) (fun x119_70 =>
 condS x119_70
 (nextS P (V (Instr.fieldAt 24 (e 5) 0)) (fun x121_71 =>
 nextS P (V (Instr.loadAt 22 x121_71)) (fun x122_72 =>
 nextS P (V (Instr.fieldAt 44 x22_42 1)) (fun x123_73 =>
 nextS P (V (Instr.loadAt 3 x123_73)) (fun x124_74 =>
 nextS P (V (Instr.indexAt 22 x122_72 x124_74)) (fun x125_75 =>
 nextS P (V (Instr.fieldAt 46 x125_75 4)) (fun x126_76 =>
 nextS P (V (Instr.loadAt 35 x126_76)) (fun x127_77 =>
 nextS P (bltN .len #[35] 3 #[false] #[x127_77]) (fun x128_78 =>
 nextS P (binN .mul 3 (Operand.const (Value.int IntKind.i64 2)) (Operand.tmp 128) (Value.int IntKind.i64 2) x128_78) (fun x129_79 =>
 nextS P (binN .add 2 (Operand.tmp 120) (Operand.tmp 129) (e 19) x129_79) (fun x130_80 =>
 S5_k3 nx2 ret pn (e 4) (e 5) (e 11) (e 12) (e 13) (e 15) (e 16) (e 17) (e 18) x130_80 (e 20) (e 21)) pn) pn) pn) pn) pn) pn) pn) pn) pn) pn)
 (nextS P (binN .eql 3 (Operand.tmp 117) (Operand.const (Value.int IntKind.i64 3)) x117_69 (Value.int IntKind.i64 3)) (fun x132_82 =>
 condS x132_82
 (nextS P (binN .add 2 (Operand.tmp 133) (Operand.const (Value.int IntKind.i64 50)) (e 19) (Value.int IntKind.i64 50)) (fun x134_83 =>
 S5_k3 nx2 ret pn (e 4) (e 5) (e 11) (e 12) (e 13) (e 15) (e 16) (e 17) (e 18) x134_83 (e 20) (e 21)) pn)
 (nextS P (binN .eql 3 (Operand.tmp 117) (Operand.const (Value.int IntKind.i64 2)) x117_69 (Value.int IntKind.i64 2)) (fun x136_84 =>
 condS x136_84
 (S5_k3 nx2 ret pn (e 4) (e 5) (e 11) (e 12) (e 13) (e 15) (e 16) (e 17) (e 18) (e 19) (Value.bool true) (e 21))
 (S5_k3 nx2 ret pn (e 4) (e 5) (e 11) (e 12) (e 13) (e 15) (e 16) (e 17) (e 18) (e 19) (e 20) (e 21))) pn)) pn)) pn) pn) pn)) pn) pn) pn) pn)
 (nextS P (binN .neq 2 (Operand.tmp 137) (Operand.tmp 138) (e 17) (e 19)) (fun x139_85 =>
 grdS x139_85 false (fun K => K (e 16)) fun x141_86 =>
 grdS x139_85 false (fun K => K (e 20)) fun x142_87 =>
 grdS x139_85 false (fun K => nextS P (binN .neq 4 (Operand.tmp 141) (Operand.tmp 142) x141_86 x142_87) K pn) fun x143_88 =>
 nextS P (pickN x139_85 (Value.bool true) x143_88) (fun x144_89 =>
 grdS x144_89 false (fun K => K (e 15)) fun x146_90 =>
 grdS x144_89 false (fun K => nextS P (bltN .len #[35] 3 #[false] #[x146_90]) K pn) fun x147_91 =>
 grdS x144_89 false (fun K => nextS P (binN .gtr 3 (Operand.tmp 147) (Operand.const (Value.int IntKind.i64 0)) x147_91 (Value.int IntKind.i64 0)) K pn) fun x148_92 =>
 grdS x144_89 false (fun K => K x148_92) fun x149_93 =>
 grdS x149_93 true (fun K => K (e 20)) fun x150_94 =>
 grdS x149_93 true (fun K => nextS P (V (Op.unary .not x150_94)) K pn) fun x151_95 =>
 grdS x144_89 false (fun K => nextS P (pickN x149_93 x151_95 (Value.bool false)) K pn) fun x152_96 =>
 nextS P (pickN x144_89 (Value.bool true) x152_96) (fun x153_97 =>
 condS x153_97
 (ret (Value.bool false))
 (nextS P (binN .add 3 (Operand.tmp 45) (Operand.const (Value.int IntKind.i64 1)) (e 13) (Value.int IntKind.i64 1)) (fun x46_98 =>
 nx1 [(e 4), (e 5), (e 11), (e 12), x46_98]) pn)) pn) pn) pn)) pn) pn
def S5_l1 (nx1 : List Value → C) (ret : Value → C) (pn : Pn) (e : Env) : C :=
 nextS P (bltN .len #[27] 3 #[false] #[(e 4)]) (fun x39_12 =>
 nextS P (binN .lss 3 (Operand.tmp 37) (Operand.tmp 39) (e 13) x39_12) (fun x40_13 =>
 grdS x40_13 true (fun K => K (e 13)) fun x42_14 =>
 grdS x40_13 true (fun K => nextS P (binN .lss 3 (Operand.tmp 42) (Operand.const (Value.int IntKind.i64 100)) x42_14 (Value.int IntKind.i64 100)) K pn) fun x43_15 =>
 nextS P (pickN x40_13 x43_15 (Value.bool false)) (fun x44_16 =>
 condS x44_16
 (callS P 15 #[(e 12)] (fun x48_17 =>
 nextS P (bltN .len #[40] 3 #[false] #[x48_17]) (fun x49_18 =>
 DrawS fun S =>
 pureS P (V (Instr.indexAt 27 (e 4) (e 13))) fun x54_19 =>
 pureS P (V (Instr.fieldAt 33 x54_19 0)) fun x55_20 =>
 takeS S P (V (Instr.loadAt 3 x55_20)) fun x56_21 =>
 pureS P (V (Instr.indexAt 27 (e 4) (e 13))) fun x59_22 =>
 pureS P (V (Instr.fieldAt 33 x59_22 1)) fun x60_23 =>
 takeS S P (V (Instr.loadAt 26 x60_23)) fun x61_24 =>
 callS P 12 #[(e 12), x56_21, x61_24] (fun x62_25 w => S w ∧ (pureS P (V (Instr.extract x62_25 0)) fun x63_26 =>
 pureS P (V (Instr.extract x62_25 1)) fun x64_27 =>
 pureS P (V (Instr.extract x62_25 2)) fun x65_28 =>
 callS P 15 #[(e 12)] (fun x67_29 =>
 nextS P (bltN .len #[40] 3 #[false] #[x67_29]) (fun x69_30 =>
 nextS P (binN .lss 3 (Operand.tmp 69) (Operand.tmp 70) x69_30 x49_18) (fun x71_31 =>
 grdS x71_31 false (fun K => K x67_29) fun x73_32 =>
 grdS x71_31 false (fun K => nextS P (bltN .len #[40] 3 #[false] #[x73_32]) K pn) fun x74_33 =>
 grdS x71_31 false (fun K => K x49_18) fun x75_34 =>
 grdS x71_31 false (fun K => nextS P (binN .add 3 (Operand.tmp 75) (Operand.const (Value.int IntKind.i64 3)) x75_34 (Value.int IntKind.i64 3)) K pn) fun x76_35 =>
 grdS x71_31 false (fun K => nextS P (binN .gtr 3 (Operand.tmp 74) (Operand.tmp 76) x74_33 x76_35) K pn) fun x77_36 =>
 nextS P (pickN x71_31 (Value.bool true) x77_36) (fun x78_37 =>
 condS x78_37
 (ret (Value.bool false))
 (LoopS [(e 4), (e 5), (e 11), (e 12), (e 13), x63_26, x64_27, x65_28, x67_29, (Value.int IntKind.i64 0), (Value.bool false), x49_18] [4, 5, 11, 12, 13, 15, 16, 17, 18, 19, 20, 21] fun nx2 e => S5_l2 nx1 nx2 ret pn e)) pn) pn) pn) pn) w) pn) pn) pn)
 (ret (e 11))) pn) pn) pn
def S5 (a0 a1 a2 a3 a4 : Value) (ret : Value → C) (pn : Pn) : C :=
 nextS P (V (Instr.box 24 a0)) (fun x5_1 =>
 callS P 9 #[] (fun x23_2 =>
 nextS P (V (Instr.loadAt 24 x5_1)) (fun x24_3 =>
 callS P 10 #[x24_3] (fun x25_4 =>
 nextS P (U (Instr.storeAt 24 x5_1 x25_4)) (fun _ =>
 DrawS fun S =>
 takeS S P (V (Instr.loadAt 24 x5_1)) fun x26_6 =>
 takeS S P (bltN .len #[26] 3 #[false] #[a3]) fun x31_7 =>
 takeS S P (bltN .min #[3, 3] 3 #[false, true] #[x31_7, (Value.int IntKind.i64 200)]) fun x32_8 =>
 pureS P (V (Instr.sliceAt 26 a3 none (some x32_8) none)) fun x33_9 =>
 callS P 11 #[x26_6, a1, a2, x33_9] (fun x34_10 w => S w ∧ (nextS P (binN .eql 30 (Operand.tmp 35) (Operand.const (Value.pointer none)) x34_10 (Value.pointer none)) (fun x36_11 =>
 condS x36_11
 (ret (Value.bool false))
 (LoopS [a4, x5_1, x23_2, x34_10, (Value.int IntKind.i64 0)] [4, 5, 11, 12, 13] fun nx1 e => S5_l1 nx1 ret pn e)) pn) w) pn) pn) pn) pn) pn) pn
def mo5 : Nat → Mo
  | 3 => (Mo.take 0 (Mo.take 1 (Mo.take 2 (Mo.take 3 (Mo.take 4 (Mo.take 5 (Mo.take 6 (Mo.take 7 (Mo.eff 8 (Mo.take 9 Mo.done))))))))))
  | 10 => (Mo.take 0 (Mo.take 1 (Mo.take 2 (Mo.take 3 (Mo.take 4 (Mo.take 5 (Mo.take 6 (Mo.take 7 (Mo.take 8 (Mo.take 9 (Mo.take 10 (Mo.eff 11 (Mo.take 12 (Mo.take 13 (Mo.take 14 (Mo.take 15 (Mo.take 16 (Mo.take 17 (Mo.take 18 Mo.done)))))))))))))))))))
  | 20 => (Mo.take 0 (Mo.take 1 (Mo.take 2 (Mo.take 3 (Mo.take 4 (Mo.take 5 (Mo.take 6 (Mo.take 7 (Mo.take 8 (Mo.take 9 (Mo.take 10 (Mo.take 11 (Mo.take 12 (Mo.take 13 (Mo.take 14 (Mo.take 15 (Mo.take 16 (Mo.take 17 (Mo.take 18 (Mo.take 19 (Mo.take 20 (Mo.take 21 (Mo.take 22 (Mo.take 23 (Mo.take 24 (Mo.take 25 Mo.done))))))))))))))))))))))))))
  | _ => .done
def lv5 : Nat → List Nat
  | 7 => [4, 5, 11, 12, 13]
  | 17 => [4, 5, 11, 12, 13, 15, 16, 17, 18, 19, 20, 21]
  | _ => []
theorem ok5 : okC Tryd.f5.ntmps mo5 (Tryd.f5.body.getD .skip) = true := by kernel_rfl
theorem eq5 (a0 a1 a2 a3 a4 : Value) (ret : Value → C) (pn : Pn) : D P mo5 lv5 pn (Tryd.f5.body.getD .skip) (finQ P Tryd.f5.results ret) (env0 [a0, a1, a2, a3, a4]) = S5 a0 a1 a2 a3 a4 ret pn := by kernel_rfl
theorem c5 {a0 a1 a2 a3 a4 : Value} {R : Ending → World → Prop} {w : World} (h : S5 a0 a1 a2 a3 a4 (fun v w => R (.returned v) w) (fun c w => R (.panicked c) w) w) : Calls P 5 #[a0, a1, a2, a3, a4] w R :=
  callsD mixed mo5 lv5 Tryd.func5 rfl (Nat.le_of_ble_eq_true rfl) ok5 ((congrFun (eq5 a0 a1 a2 a3 a4 _ _) w).mpr h)
theorem en5 (args : Array Value) (w : World) : (callFunc 5 args).run P w = .ok (.enter 5 args) w := by kernel_rfl

/-! ### evenhand / evenhandlaw19.TierKeeps -/
def S6_k4 (nx2 : List Value → C) (ret : Value → C) (pn : Pn) (y0 y1 y5 y7 y8 y9 y10 y11 y12 y13 : Value) : C :=
 nextS P (binN .neq 4 (Operand.tmp 63) (Operand.tmp 64) y10 y12) (fun x65_32 =>
 grdS x65_32 false (fun K => K y11) fun x67_33 =>
 grdS x65_32 false (fun K => K y13) fun x68_34 =>
 grdS x65_32 false (fun K => nextS P (binN .neq 2 (Operand.tmp 67) (Operand.tmp 68) x67_33 x68_34) K pn) fun x69_35 =>
 nextS P (pickN x65_32 (Value.bool true) x69_35) (fun x70_36 =>
 grdS x70_36 false (fun K => K y9) fun x72_37 =>
 grdS x70_36 false (fun K => nextS P (bltN .len #[35] 3 #[false] #[x72_37]) K pn) fun x73_38 =>
 grdS x70_36 false (fun K => nextS P (binN .gtr 3 (Operand.tmp 73) (Operand.const (Value.int IntKind.i64 0)) x73_38 (Value.int IntKind.i64 0)) K pn) fun x74_39 =>
 grdS x70_36 false (fun K => K y12) fun x75_40 =>
 grdS x70_36 false (fun K => nextS P (binN .neq 4 (Operand.tmp 74) (Operand.tmp 75) x74_39 x75_40) K pn) fun x76_41 =>
 nextS P (pickN x70_36 (Value.bool true) x76_41) (fun x77_42 =>
 condS x77_42
 (ret (Value.bool false))
 (nextS P (binN .add 3 (Operand.tmp 34) (Operand.const (Value.int IntKind.i64 1)) y8 (Value.int IntKind.i64 1)) (fun x35_43 =>
 nx2 [y0, y1, y5, y7, x35_43]) pn)) pn) pn) pn
def S6_k3 (nx2 : List Value → C) (ret : Value → C) (pn : Pn) (y0 y1 y5 y7 y8 y9 y10 y11 y12 y13 : Value) : C :=
 nextS P (V (Op.unary .not y12)) (fun x62_31 =>
 condS x62_31
 (S6_k4 nx2 ret pn y0 y1 y5 y7 y8 y9 y10 y11 y12 (Value.int IntKind.i64 50))
 (S6_k4 nx2 ret pn y0 y1 y5 y7 y8 y9 y10 y11 y12 y13)) pn
def S6_l2 (nx2 : List Value → C) (ret : Value → C) (pn : Pn) (e : Env) : C :=
 nextS P (bltN .len #[26] 3 #[false] #[(e 1)]) (fun x32_11 =>
 nextS P (binN .lss 3 (Operand.tmp 30) (Operand.tmp 32) (e 8) x32_11) (fun x33_12 =>
 condS x33_12
 (nextS P (V (Instr.indexAt 26 (e 1) (e 8))) (fun x40_13 =>
 nextS P (V (Instr.loadAt 2 x40_13)) (fun x41_14 =>
 nextS P (V (Instr.buildSlice 26 1 #[(0, x41_14)])) (fun x42_15 =>
 callS P 12 #[(e 7), (Value.int IntKind.i64 1), x42_15] (fun x43_16 =>
 nextS P (V (Instr.extract x43_16 0)) (fun x44_17 =>
 nextS P (V (Instr.extract x43_16 1)) (fun x45_18 =>
 nextS P (V (Instr.extract x43_16 2)) (fun x46_19 =>
 DrawS fun S =>
 pureS P (V (Op.unary .not (e 0))) fun x48_20 =>
 grdS x48_20 false (fun K => K (e 1)) fun x50_21 =>
 grdS x48_20 false (fun K => K (e 8)) fun x51_22 =>
 grdS x48_20 false (pureS P (V (Instr.indexAt 26 x50_21 x51_22))) fun x52_23 =>
 grdS x48_20 false (takeS S P (V (Instr.loadAt 2 x52_23))) fun x53_24 =>
 grdS x48_20 false (fun K => K (e 1)) fun x54_25 =>
 grdS x48_20 false (pureS P (V (Instr.indexAt 26 x54_25 (Value.int IntKind.i64 0)))) fun x55_26 =>
 grdS x48_20 false (takeS S P (V (Instr.loadAt 2 x55_26))) fun x56_27 =>
 grdS x48_20 false (pureS P (binN .eql 2 (Operand.tmp 53) (Operand.tmp 56) x53_24 x56_27)) fun x57_28 =>
 pureS P (pickN x48_20 (Value.bool true) x57_28) fun x58_29 =>
 nextS P (binN .eql 3 (Operand.tmp 59) (Operand.const (Value.int IntKind.i64 0)) (e 8) (Value.int IntKind.i64 0)) (fun x60_30 =>
 condS x60_30
 (S6_k3 nx2 ret pn (e 0) (e 1) (e 5) (e 7) (e 8) x44_17 x45_18 x46_19 x58_29 (Value.int IntKind.i64 8))
 (S6_k3 nx2 ret pn (e 0) (e 1) (e 5) (e 7) (e 8) x44_17 x45_18 x46_19 x58_29 (Value.int IntKind.i64 0))) pn) pn) pn) pn) pn) pn) pn) pn)
 (callS P 15 #[(e 7)] (fun x79_44 =>
 grdS (e 5) true (fun K => K x79_44) fun x82_45 =>
 grdS (e 5) true (fun K => nextS P (bltN .len #[40] 3 #[false] #[x82_45]) K pn) fun x83_46 =>
 grdS (e 5) true (fun K => K (e 1)) fun x84_47 =>
 grdS (e 5) true (fun K => nextS P (bltN .len #[26] 3 #[false] #[x84_47]) K pn) fun x85_48 =>
 grdS (e 5) true (fun K => K (e 1)) fun x86_49 =>
 grdS (e 5) true (fun K => nextS P (bltN .len #[26] 3 #[false] #[x86_49]) K pn) fun x87_50 =>
 grdS (e 5) true (fun K => nextS P (bltN .min #[3, 3] 3 #[false, true] #[x87_50, (Value.int IntKind.i64 1)]) K pn) fun x88_51 =>
 grdS (e 5) true (fun K => nextS P (binN .add 3 (Operand.tmp 85) (Operand.tmp 88) x85_48 x88_51) K pn) fun x89_52 =>
 grdS (e 5) true (fun K => nextS P (binN .eql 3 (Operand.tmp 83) (Operand.tmp 89) x83_46 x89_52) K pn) fun x90_53 =>
 nextS P (pickN (e 5) x90_53 (Value.bool false)) (fun x91_54 =>
 ret x91_54) pn) pn)) pn) pn
def S6_k1 (ret : Value → C) (pn : Pn) (y0 y1 y5 y6 : Value) : C :=
 callS P 16 #[] (fun x17_2 =>
 nextS P (V (Instr.buildSlice 34 1 #[(0, (Value.bool true))])) (fun x18_3 =>
 nextS P (V (Instr.buildSlice 25 2 #[(0, (Value.slice none 0 0)), (1, x18_3)])) (fun x19_4 =>
 nextS P (V (Instr.buildSlice 26 1 #[(0, y6)])) (fun x21_5 =>
 callS P 11 #[x17_2, x19_4, (Value.int IntKind.i64 1), x21_5] (fun x22_6 =>
 nextS P (binN .eql 30 (Operand.tmp 23) (Operand.const (Value.pointer none)) x22_6 (Value.pointer none)) (fun x24_7 =>
 condS x24_7
 (ret (Value.bool false))
 (nextS P (bltN .len #[26] 3 #[false] #[y1]) (fun x27_8 =>
 nextS P (bltN .min #[3, 3] 3 #[false, true] #[x27_8, (Value.int IntKind.i64 50)]) (fun x28_9 =>
 nextS P (V (Instr.sliceAt 26 y1 none (some x28_9) none)) (fun x29_10 =>
 LoopS [y0, x29_10, y5, x22_6, (Value.int IntKind.i64 0)] [0, 1, 5, 7, 8] fun nx2 e => S6_l2 nx2 ret pn e) pn) pn) pn)) pn) pn) pn) pn) pn) pn
def S6 (a0 a1 : Value) (ret : Value → C) (pn : Pn) : C :=
 callS P 9 #[] (fun x15_1 =>
 condS a0
 (S6_k1 ret pn a0 a1 x15_1 (Value.int IntKind.i64 2))
 (S6_k1 ret pn a0 a1 x15_1 (Value.int IntKind.i64 1))) pn
def mo6 : Nat → Mo
  | 13 => (Mo.take 0 (Mo.take 1 (Mo.take 2 (Mo.take 3 (Mo.take 4 (Mo.take 5 (Mo.take 6 (Mo.take 7 (Mo.take 8 (Mo.take 9 (Mo.take 10 (Mo.take 11 (Mo.take 12 Mo.done)))))))))))))
  | _ => .done
def lv6 : Nat → List Nat
  | 10 => [0, 1, 5, 7, 8]
  | _ => []
theorem ok6 : okC Tryd.f6.ntmps mo6 (Tryd.f6.body.getD .skip) = true := by kernel_rfl
theorem eq6 (a0 a1 : Value) (ret : Value → C) (pn : Pn) : D P mo6 lv6 pn (Tryd.f6.body.getD .skip) (finQ P Tryd.f6.results ret) (env0 [a0, a1]) = S6 a0 a1 ret pn := by kernel_rfl
theorem c6 {a0 a1 : Value} {R : Ending → World → Prop} {w : World} (h : S6 a0 a1 (fun v w => R (.returned v) w) (fun c w => R (.panicked c) w) w) : Calls P 6 #[a0, a1] w R :=
  callsD mixed mo6 lv6 Tryd.func6 rfl (Nat.le_of_ble_eq_true rfl) ok6 ((congrFun (eq6 a0 a1 _ _) w).mpr h)
theorem en6 (args : Array Value) (w : World) : (callFunc 6 args).run P w = .ok (.enter 6 args) w := by kernel_rfl

/-! ### evenhand / evenhandlaw19.TierEvicts -/
def S7_k5 (nx4 : List Value → C) (ret : Value → C) (pn : Pn) (y0 y1 y5 y18 y19 y20 : Value) : C :=
 nextS P (binN .add 3 (Operand.tmp 108) (Operand.const (Value.int IntKind.i64 1)) y20 (Value.int IntKind.i64 1)) (fun x109_89 =>
 nx4 [y0, y1, y5, y18, y19, x109_89]) pn
def S7_l4 (nx4 : List Value → C) (ret : Value → C) (pn : Pn) (e : Env) : C :=
 nextS P (bltN .len #[40] 3 #[false] #[(e 19)]) (fun x106_78 =>
 nextS P (binN .lss 3 (Operand.tmp 104) (Operand.tmp 106) (e 20) x106_78) (fun x107_79 =>
 condS x107_79
 (nextS P (V (Instr.indexAt 40 (e 19) (e 20))) (fun x112_80 =>
 nextS P (V (Instr.fieldAt 44 x112_80 0)) (fun x113_81 =>
 nextS P (V (Instr.loadAt 3 x113_81)) (fun x114_82 =>
 nextS P (binN .eql 3 (Operand.tmp 114) (Operand.const (Value.int IntKind.i64 4)) x114_82 (Value.int IntKind.i64 4)) (fun x115_83 =>
 condS x115_83
 (nextS P (binN .add 3 (Operand.tmp 116) (Operand.const (Value.int IntKind.i64 1)) (e 18) (Value.int IntKind.i64 1)) (fun x117_84 =>
 nextS P (V (Instr.indexAt 40 (e 19) (e 20))) (fun x120_85 =>
 nextS P (V (Instr.fieldAt 44 x120_85 1)) (fun x121_86 =>
 nextS P (V (Instr.loadAt 3 x121_86)) (fun x122_87 =>
 nextS P (binN .neq 3 (Operand.tmp 122) (Operand.tmp 123) x122_87 x117_84) (fun x124_88 =>
 condS x124_88
 (ret (Value.bool false))
 (S7_k5 nx4 ret pn (e 0) (e 1) (e 5) x117_84 (e 19) (e 20))) pn) pn) pn) pn) pn)
 (S7_k5 nx4 ret pn (e 0) (e 1) (e 5) (e 18) (e 19) (e 20))) pn) pn) pn) pn)
 (grdS (e 5) true (fun K => K (e 18)) fun x127_90 =>
 grdS (e 5) true (fun K => K (e 1)) fun x128_91 =>
 grdS (e 5) true (fun K => K (e 0)) fun x129_92 =>
 grdS (e 5) true (fun K => nextS P (binN .sub 3 (Operand.tmp 128) (Operand.tmp 129) x128_91 x129_92) K pn) fun x130_93 =>
 grdS (e 5) true (fun K => nextS P (bltN .max #[3, 3] 3 #[false, true] #[x130_93, (Value.int IntKind.i64 0)]) K pn) fun x131_94 =>
 grdS (e 5) true (fun K => nextS P (binN .eql 3 (Operand.tmp 127) (Operand.tmp 131) x127_90 x131_94) K pn) fun x132_95 =>
 nextS P (pickN (e 5) x132_95 (Value.bool false)) (fun x133_96 =>
 ret x133_96) pn)) pn) pn
def S7_l3 (nx3 : List Value → C) (ret : Value → C) (pn : Pn) (e : Env) : C :=
 nextS P (binN .leq 3 (Operand.tmp 78) (Operand.tmp 79) (e 14) (e 1)) (fun x80_64 =>
 condS x80_64
 (nextS P (V (Instr.buildSlice 26 1 #[(0, (Value.int IntKind.i64 3))])) (fun x86_65 =>
 callS P 12 #[(e 9), (e 14), x86_65] (fun x87_66 =>
 nextS P (V (Instr.extract x87_66 0)) (fun x88_67 =>
 nextS P (V (Instr.extract x87_66 1)) (fun x89_68 =>
 nextS P (V (Instr.extract x87_66 2)) (fun x90_69 =>
 nextS P (binN .sub 3 (Operand.tmp 93) (Operand.tmp 94) (e 1) (e 0)) (fun x95_70 =>
 nextS P (binN .gtr 3 (Operand.tmp 92) (Operand.tmp 95) (e 14) x95_70) (fun x96_71 =>
 nextS P (binN .neq 4 (Operand.tmp 91) (Operand.tmp 96) x89_68 x96_71) (fun x97_72 =>
 grdS x97_72 false (fun K => K x90_69) fun x99_73 =>
 grdS x97_72 false (fun K => nextS P (binN .neq 2 (Operand.tmp 99) (Operand.const (Value.int IntKind.i64 0)) x99_73 (Value.int IntKind.i64 0)) K pn) fun x100_74 =>
 nextS P (pickN x97_72 (Value.bool true) x100_74) (fun x101_75 =>
 condS x101_75
 (ret (Value.bool false))
 (nextS P (binN .add 3 (Operand.tmp 81) (Operand.const (Value.int IntKind.i64 1)) (e 14) (Value.int IntKind.i64 1)) (fun x82_76 =>
 nx3 [(e 0), (e 1), (e 5), (e 9), x82_76]) pn)) pn) pn) pn) pn) pn) pn) pn) pn) pn)
 (callS P 15 #[(e 9)] (fun x103_77 =>
 LoopS [(e 0), (e 1), (e 5), (Value.int IntKind.i64 0), x103_77, (Value.int IntKind.i64 0)] [0, 1, 5, 18, 19, 20] fun nx4 e => S7_l4 nx4 ret pn e) pn)) pn
def S7_l2 (nx2 : List Value → C) (ret : Value → C) (pn : Pn) (e : Env) : C :=
 nextS P (binN .leq 3 (Operand.tmp 59) (Operand.tmp 60) (e 10) (e 1)) (fun x61_53 =>
 condS x61_53
 (nextS P (V (Instr.buildSlice 26 1 #[(0, (Value.int IntKind.i64 3))])) (fun x67_54 =>
 callS P 12 #[(e 9), (e 10), x67_54] (fun x68_55 =>
 nextS P (V (Instr.extract x68_55 0)) (fun x69_56 =>
 nextS P (V (Instr.extract x68_55 1)) (fun x70_57 =>
 nextS P (V (Instr.extract x68_55 2)) (fun x71_58 =>
 nextS P (V (Op.unary .not x70_57)) (fun x73_59 =>
 grdS x73_59 false (fun K => K x71_58) fun x75_60 =>
 grdS x73_59 false (fun K => nextS P (binN .neq 2 (Operand.tmp 75) (Operand.const (Value.int IntKind.i64 8)) x75_60 (Value.int IntKind.i64 8)) K pn) fun x76_61 =>
 nextS P (pickN x73_59 (Value.bool true) x76_61) (fun x77_62 =>
 condS x77_62
 (ret (Value.bool false))
 (nextS P (binN .add 3 (Operand.tmp 62) (Operand.const (Value.int IntKind.i64 1)) (e 10) (Value.int IntKind.i64 1)) (fun x63_63 =>
 nx2 [(e 0), (e 1), (e 5), (e 9), x63_63]) pn)) pn) pn) pn) pn) pn) pn) pn)
 (LoopS [(e 0), (e 1), (e 5), (e 9), (Value.int IntKind.i64 1)] [0, 1, 5, 9, 14] fun nx3 e => S7_l3 nx3 ret pn e)) pn
def S7_l1 (nx1 : List Value → C) (ret : Value → C) (pn : Pn) (e : Env) : C :=
 nextS P (binN .lss 3 (Operand.tmp 36) (Operand.tmp 37) (e 8) (e 1)) (fun x38_16 =>
 condS x38_16
 (DrawS fun S =>
 pureS P (V (Instr.fieldAt 24 (e 6) 0)) fun x41_17 =>
 fun w => (nextS P (V (Instr.loadAt 22 x41_17)) (fun x42_18 w => S w ∧ (callS P 16 #[] (fun x43_19 w => S w ∧ (pureS P (V (Instr.field 24 x43_19 0)) fun x44_20 =>
 pureS P (V (Instr.indexAt 22 x44_20 (Value.int IntKind.i64 1))) fun x45_21 =>
 takeS S P (V (Instr.loadAt 46 x45_21)) fun x46_22 =>
 nextS P (V (Instr.buildSlice 22 1 #[(0, x46_22)])) (fun x47_23 w => S w ∧ (nextS P (bltN .append #[22, 22] 22 #[false, false] #[x42_18, x47_23]) (fun x48_24 w => S w ∧ (pureS P (V (Instr.fieldAt 24 (e 6) 0)) fun x49_25 =>
 nextS P (U (Instr.storeAt 22 x49_25 x48_24)) (fun _ w => S w ∧ (nextS P (V (Instr.buildSlice 26 1 #[(0, (Value.int IntKind.i64 1))])) (fun x51_27 =>
 nextS P (bltN .append #[26, 26] 26 #[false, false] #[(e 7), x51_27]) (fun x52_28 =>
 nextS P (binN .add 3 (Operand.tmp 39) (Operand.const (Value.int IntKind.i64 1)) (e 8) (Value.int IntKind.i64 1)) (fun x40_29 =>
 nx1 [(e 0), (e 1), (e 5), (e 6), x52_28, x40_29]) pn) pn) pn) w) pn) w) pn) w) pn) w) pn) w) pn) w ∧ (callS P 16 #[] (fun x43_30 w => S w ∧ (pureS P (V (Instr.field 24 x43_30 0)) fun x44_31 =>
 pureS P (V (Instr.indexAt 22 x44_31 (Value.int IntKind.i64 1))) fun x45_32 =>
 takeS S P (V (Instr.loadAt 46 x45_32)) fun x46_33 =>
 fun w => (nextS P (V (Instr.loadAt 22 x41_17)) (fun x42_34 w => S w ∧ (nextS P (V (Instr.buildSlice 22 1 #[(0, x46_33)])) (fun x47_35 w => S w ∧ (nextS P (bltN .append #[22, 22] 22 #[false, false] #[x42_34, x47_35]) (fun x48_36 w => S w ∧ (pureS P (V (Instr.fieldAt 24 (e 6) 0)) fun x49_37 =>
 nextS P (U (Instr.storeAt 22 x49_37 x48_36)) (fun _ w => S w ∧ (nextS P (V (Instr.buildSlice 26 1 #[(0, (Value.int IntKind.i64 1))])) (fun x51_39 =>
 nextS P (bltN .append #[26, 26] 26 #[false, false] #[(e 7), x51_39]) (fun x52_40 =>
 nextS P (binN .add 3 (Operand.tmp 39) (Operand.const (Value.int IntKind.i64 1)) (e 8) (Value.int IntKind.i64 1)) (fun x40_41 =>
 nx1 [(e 0), (e 1), (e 5), (e 6), x52_40, x40_41]) pn) pn) pn) w) pn) w) pn) w) pn) w) pn) w ∧ (nextS P (V (Instr.buildSlice 22 1 #[(0, x46_33)])) (fun x47_42 w => S w ∧ (nextS P (V (Instr.loadAt 22 x41_17)) (fun x42_43 w => S w ∧ (nextS P (bltN .append #[22, 22] 22 #[false, false] #[x42_43, x47_42]) (fun x48_44 w => S w ∧ (pureS P (V (Instr.fieldAt 24 (e 6) 0)) fun x49_45 =>
 nextS P (U (Instr.storeAt 22 x49_45 x48_44)) (fun _ w => S w ∧ (nextS P (V (Instr.buildSlice 26 1 #[(0, (Value.int IntKind.i64 1))])) (fun x51_47 =>
 nextS P (bltN .append #[26, 26] 26 #[false, false] #[(e 7), x51_47]) (fun x52_48 =>
 nextS P (binN .add 3 (Operand.tmp 39) (Operand.const (Value.int IntKind.i64 1)) (e 8) (Value.int IntKind.i64 1)) (fun x40_49 =>
 nx1 [(e 0), (e 1), (e 5), (e 6), x52_48, x40_49]) pn) pn) pn) w) pn) w) pn) w) pn) w) pn) w) w) pn) w)
 (nextS P (V (Instr.loadAt 24 (e 6))) (fun x53_50 =>
 callS P 11 #[x53_50, (Value.slice none 0 0), (e 0), (e 7)] (fun x56_51 =>
 nextS P (binN .eql 30 (Operand.tmp 57) (Operand.const (Value.pointer none)) x56_51 (Value.pointer none)) (fun x58_52 =>
 condS x58_52
 (ret (Value.bool false))
 (LoopS [(e 0), (e 1), (e 5), x56_51, (Value.int IntKind.i64 1)] [0, 1, 5, 9, 10] fun nx2 e => S7_l2 nx2 ret pn e)) pn) pn) pn)) pn
def S7 (a0 a1 : Value) (ret : Value → C) (pn : Pn) : C :=
 callS P 9 #[] (fun x21_1 =>
 nextS P (binN .and 3 (Operand.tmp 22) (Operand.const (Value.int IntKind.i64 65535)) a0 (Value.int IntKind.i64 65535)) (fun x23_2 =>
 nextS P (binN .rem 3 (Operand.tmp 23) (Operand.const (Value.int IntKind.i64 8)) x23_2 (Value.int IntKind.i64 8)) (fun x24_3 =>
 nextS P (binN .add 3 (Operand.const (Value.int IntKind.i64 1)) (Operand.tmp 24) (Value.int IntKind.i64 1) x24_3) (fun x25_4 =>
 nextS P (binN .and 3 (Operand.tmp 26) (Operand.const (Value.int IntKind.i64 65535)) a1 (Value.int IntKind.i64 65535)) (fun x27_5 =>
 nextS P (binN .rem 3 (Operand.tmp 27) (Operand.const (Value.int IntKind.i64 12)) x27_5 (Value.int IntKind.i64 12)) (fun x28_6 =>
 nextS P (binN .add 3 (Operand.const (Value.int IntKind.i64 1)) (Operand.tmp 28) (Value.int IntKind.i64 1) x28_6) (fun x29_7 =>
 callS P 16 #[] (fun x30_8 =>
 nextS P (V (Instr.field 24 x30_8 0)) (fun x31_9 =>
 nextS P (V (Instr.indexAt 22 x31_9 (Value.int IntKind.i64 0))) (fun x32_10 =>
 nextS P (V (Instr.loadAt 46 x32_10)) (fun x33_11 =>
 nextS P (V (Instr.buildSlice 22 1 #[(0, x33_11)])) (fun x34_12 =>
 nextS P (V (Instr.build 24 #[(0, x34_12)])) (fun x35_13 =>
 nextS P (V (Instr.alloc 24 true (.tuple #[]))) (fun x6_14 =>
 nextS P (U (Instr.storeAt 24 x6_14 x35_13)) (fun _ =>
 LoopS [x25_4, x29_7, x21_1, x6_14, (Value.slice none 0 0), (Value.int IntKind.i64 0)] [0, 1, 5, 6, 7, 8] fun nx1 e => S7_l1 nx1 ret pn e) pn) pn) pn) pn) pn) pn) pn) pn) pn) pn) pn) pn) pn) pn) pn
def mo7 : Nat → Mo
  | 9 => (Mo.take 0 (Mo.two 1 (Mo.eff 2 (Mo.take 3 (Mo.take 4 (Mo.take 5 (Mo.eff 6 (Mo.eff 7 (Mo.take 8 (Mo.eff 9 Mo.done)))))))) 2 (Mo.take 3 (Mo.take 4 (Mo.take 5 (Mo.two 1 (Mo.eff 6 (Mo.eff 7 (Mo.take 8 (Mo.eff 9 Mo.done)))) 6 (Mo.eff 1 (Mo.eff 7 (Mo.take 8 (Mo.eff 9 Mo.done))))))))))
  | _ => .done
def lv7 : Nat → List Nat
  | 7 => [0, 1, 5, 6, 7, 8]
  | 15 => [0, 1, 5, 9, 10]
  | 21 => [0, 1, 5, 9, 14]
  | 29 => [0, 1, 5, 18, 19, 20]
  | _ => []
theorem ok7 : okC Tryd.f7.ntmps mo7 (Tryd.f7.body.getD .skip) = true := by kernel_rfl
theorem eq7 (a0 a1 : Value) (ret : Value → C) (pn : Pn) : D P mo7 lv7 pn (Tryd.f7.body.getD .skip) (finQ P Tryd.f7.results ret) (env0 [a0, a1]) = S7 a0 a1 ret pn := by kernel_rfl
theorem c7 {a0 a1 : Value} {R : Ending → World → Prop} {w : World} (h : S7 a0 a1 (fun v w => R (.returned v) w) (fun c w => R (.panicked c) w) w) : Calls P 7 #[a0, a1] w R :=
  callsD mixed mo7 lv7 Tryd.func7 rfl (Nat.le_of_ble_eq_true rfl) ok7 ((congrFun (eq7 a0 a1 _ _) w).mpr h)
theorem en7 (args : Array Value) (w : World) : (callFunc 7 args).run P w = .ok (.enter 7 args) w := by kernel_rfl

/-! ### evenhand / evenhandlaw19.TierOwn -/
def S8_l3 (nx1 : List Value → C) (nx3 : List Value → C) (ret : Value → C) (pn : Pn) (e : Env) : C :=
 nextS P (bltN .len #[40] 3 #[false] #[(e 18)]) (fun x124_78 =>
 nextS P (binN .lss 3 (Operand.tmp 122) (Operand.tmp 124) (e 19) x124_78) (fun x125_79 =>
 condS x125_79
 (nextS P (V (Instr.build 44 #[])) (fun x130_80 =>
 nextS P (V (Instr.indexAt 40 (e 18) (e 19))) (fun x131_81 =>
 nextS P (U (Instr.storeAt 44 x131_81 x130_80)) (fun _ =>
 nextS P (binN .add 3 (Operand.tmp 126) (Operand.const (Value.int IntKind.i64 1)) (e 19) (Value.int IntKind.i64 1)) (fun x127_83 =>
 nx3 [(e 0), (e 3), (e 7), (e 8), (e 9), (e 18), x127_83]) pn) pn) pn) pn)
 (nextS P (binN .add 3 (Operand.tmp 61) (Operand.const (Value.int IntKind.i64 1)) (e 9) (Value.int IntKind.i64 1)) (fun x62_84 =>
 nx1 [(e 0), (e 3), (e 7), (e 8), x62_84]) pn)) pn) pn
def S8_l2 (nx1 : List Value → C) (nx2 : List Value → C) (ret : Value → C) (pn : Pn) (e : Env) : C :=
 nextS P (bltN .len #[35] 3 #[false] #[(e 11)]) (fun x112_71 =>
 nextS P (binN .lss 3 (Operand.tmp 110) (Operand.tmp 112) (e 17) x112_71) (fun x113_72 =>
 condS x113_72
 (nextS P (V (Instr.build 51 #[(0, (Value.int IntKind.i64 77))])) (fun x118_73 =>
 nextS P (V (Instr.indexAt 35 (e 11) (e 17))) (fun x119_74 =>
 nextS P (U (Instr.storeAt 51 x119_74 x118_73)) (fun _ =>
 nextS P (binN .add 3 (Operand.tmp 114) (Operand.const (Value.int IntKind.i64 1)) (e 17) (Value.int IntKind.i64 1)) (fun x115_76 =>
 nx2 [(e 0), (e 3), (e 7), (e 8), (e 9), (e 11), x115_76]) pn) pn) pn) pn)
 (callS P 15 #[(e 7)] (fun x121_77 =>
 LoopS [(e 0), (e 3), (e 7), (e 8), (e 9), x121_77, (Value.int IntKind.i64 0)] [0, 3, 7, 8, 9, 18, 19] fun nx3 e => S8_l3 nx1 nx3 ret pn e) pn)) pn) pn
def S8_l1 (nx1 : List Value → C) (ret : Value → C) (pn : Pn) (e : Env) : C :=
 nextS P (bltN .len #[26] 3 #[false] #[(e 0)]) (fun x55_33 =>
 nextS P (binN .lss 3 (Operand.tmp 53) (Operand.tmp 55) (e 9) x55_33) (fun x56_34 =>
 grdS x56_34 true (fun K => K (e 9)) fun x58_35 =>
 grdS x56_34 true (fun K => nextS P (binN .lss 3 (Operand.tmp 58) (Operand.const (Value.int IntKind.i64 20)) x58_35 (Value.int IntKind.i64 20)) K pn) fun x59_36 =>
 nextS P (pickN x56_34 x59_36 (Value.bool false)) (fun x60_37 =>
 condS x60_37
 (nextS P (V (Instr.indexAt 26 (e 0) (e 9))) (fun x65_38 =>
 nextS P (V (Instr.loadAt 2 x65_38)) (fun x66_39 =>
 nextS P (V (Instr.buildSlice 26 1 #[(0, x66_39)])) (fun x67_40 =>
 callS P 12 #[(e 7), (Value.int IntKind.i64 1), x67_40] (fun x71_41 =>
 nextS P (V (Instr.extract x71_41 0)) (fun x72_42 =>
 nextS P (V (Instr.extract x71_41 1)) (fun x73_43 =>
 nextS P (V (Instr.extract x71_41 2)) (fun x74_44 =>
 nextS P (V (Instr.indexAt 26 (e 0) (e 9))) (fun x79_45 =>
 nextS P (V (Instr.loadAt 2 x79_45)) (fun x80_46 =>
 nextS P (V (Instr.buildSlice 26 1 #[(0, x80_46)])) (fun x81_47 =>
 callS P 12 #[(e 8), (Value.int IntKind.i64 1), x81_47] (fun x82_48 =>
 nextS P (V (Instr.extract x82_48 0)) (fun x83_49 =>
 nextS P (V (Instr.extract x82_48 1)) (fun x84_50 =>
 nextS P (V (Instr.extract x82_48 2)) (fun x85_51 =>
 DrawS fun S =>
 callS P 13 #[x72_42, x83_49] (fun x88_52 w => S w ∧ (pureS P (V (Op.unary .not x88_52)) fun x89_53 =>
 grdS x89_53 false (fun K => K x73_43) fun x91_54 =>
 grdS x89_53 false (fun K => K x84_50) fun x92_55 =>
 grdS x89_53 false (pureS P (binN .neq 4 (Operand.tmp 91) (Operand.tmp 92) x91_54 x92_55)) fun x93_56 =>
 pureS P (pickN x89_53 (Value.bool true) x93_56) fun x94_57 =>
 grdS x94_57 false (fun K => K x74_44) fun x96_58 =>
 grdS x94_57 false (fun K => K x85_51) fun x97_59 =>
 grdS x94_57 false (pureS P (binN .neq 2 (Operand.tmp 96) (Operand.tmp 97) x96_58 x97_59)) fun x98_60 =>
 pureS P (pickN x94_57 (Value.bool true) x98_60) fun x99_61 =>
 grdS x99_61 false (fun K => K x67_40) fun x101_62 =>
 grdS x99_61 false (pureS P (V (Instr.indexAt 26 x101_62 (Value.int IntKind.i64 0)))) fun x102_63 =>
 grdS x99_61 false (takeS S P (V (Instr.loadAt 2 x102_63))) fun x103_64 =>
 grdS x99_61 false (fun K => K (e 0)) fun x104_65 =>
 grdS x99_61 false (fun K => K (e 9)) fun x105_66 =>
 grdS x99_61 false (pureS P (V (Instr.indexAt 26 x104_65 x105_66))) fun x106_67 =>
 grdS x99_61 false (takeS S P (V (Instr.loadAt 2 x106_67))) fun x107_68 =>
 grdS x99_61 false (pureS P (binN .neq 2 (Operand.tmp 103) (Operand.tmp 107) x103_64 x107_68)) fun x108_69 =>
 pureS P (pickN x99_61 (Value.bool true) x108_69) fun x109_70 =>
 condS x109_70
 (ret (Value.bool false))
 (LoopS [(e 0), (e 3), (e 7), (e 8), (e 9), x72_42, (Value.int IntKind.i64 0)] [0, 3, 7, 8, 9, 11, 17] fun nx2 e => S8_l2 nx1 nx2 ret pn e)) w) pn) pn) pn) pn) pn) pn) pn) pn) pn) pn) pn) pn) pn) pn) pn)
 (grdS (e 3) true (fun K => K (e 7)) fun x134_85 =>
 grdS (e 3) true (fun K => callS P 15 #[x134_85] K pn) fun x135_86 =>
 grdS (e 3) true (fun K => K (e 8)) fun x136_87 =>
 grdS (e 3) true (fun K => callS P 15 #[x136_87] K pn) fun x137_88 =>
 grdS (e 3) true (fun K => callS P 14 #[x135_86, x137_88] K pn) fun x138_89 =>
 nextS P (pickN (e 3) x138_89 (Value.bool false)) (fun x139_90 =>
 ret x139_90) pn)) pn) pn) pn
def S8 (a0 : Value) (ret : Value → C) (pn : Pn) : C :=
 callS P 9 #[] (fun x20_1 =>
 callS P 16 #[] (fun x21_2 =>
 nextS P (V (Instr.alloc 24 true (.tuple #[]))) (fun x4_3 =>
 nextS P (U (Instr.storeAt 24 x4_3 x21_2)) (fun _ =>
 nextS P (V (Instr.buildSlice 34 1 #[(0, (Value.bool true))])) (fun x22_5 =>
 nextS P (V (Instr.buildSlice 25 2 #[(0, (Value.slice none 0 0)), (1, x22_5)])) (fun x23_6 =>
 nextS P (V (Instr.buildSlice 26 3 #[(0, (Value.int IntKind.i64 2)), (1, (Value.int IntKind.i64 0)), (2, (Value.int IntKind.i64 0))])) (fun x24_7 =>
 nextS P (V (Instr.loadAt 24 x4_3)) (fun x25_8 =>
 callS P 11 #[x25_8, x23_6, (Value.int IntKind.i64 1), x24_7] (fun x28_9 =>
 callS P 16 #[] (fun x29_10 =>
 nextS P (V (Instr.buildSlice 34 1 #[(0, (Value.bool true))])) (fun x30_11 =>
 nextS P (V (Instr.buildSlice 25 2 #[(0, (Value.slice none 0 0)), (1, x30_11)])) (fun x31_12 =>
 nextS P (V (Instr.buildSlice 26 1 #[(0, (Value.int IntKind.i64 2))])) (fun x32_13 =>
 callS P 11 #[x29_10, x31_12, (Value.int IntKind.i64 1), x32_13] (fun x33_14 =>
 nextS P (binN .eql 30 (Operand.tmp 34) (Operand.const (Value.pointer none)) x28_9 (Value.pointer none)) (fun x35_15 =>
 grdS x35_15 false (fun K => K x33_14) fun x37_16 =>
 grdS x35_15 false (fun K => nextS P (binN .eql 30 (Operand.tmp 37) (Operand.const (Value.pointer none)) x37_16 (Value.pointer none)) K pn) fun x38_17 =>
 nextS P (pickN x35_15 (Value.bool true) x38_17) (fun x39_18 =>
 condS x39_18
 (ret (Value.bool false))
 (nextS P (V (Instr.fieldAt 24 x4_3 0)) (fun x40_19 =>
 nextS P (V (Instr.loadAt 22 x40_19)) (fun x41_20 =>
 nextS P (V (Instr.indexAt 22 x41_20 (Value.int IntKind.i64 1))) (fun x42_21 =>
 nextS P (V (Instr.fieldAt 46 x42_21 4)) (fun x43_22 =>
 nextS P (V (Instr.loadAt 35 x43_22)) (fun x44_23 =>
 nextS P (V (Instr.build 51 #[(0, (Value.int IntKind.i64 25))])) (fun x45_24 =>
 nextS P (V (Instr.indexAt 35 x44_23 (Value.int IntKind.i64 0))) (fun x46_25 =>
 nextS P (U (Instr.storeAt 51 x46_25 x45_24)) (fun _ =>
 nextS P (V (Instr.indexAt 25 x23_6 (Value.int IntKind.i64 1))) (fun x48_27 =>
 nextS P (V (Instr.loadAt 34 x48_27)) (fun x49_28 =>
 nextS P (V (Instr.indexAt 34 x49_28 (Value.int IntKind.i64 0))) (fun x50_29 =>
 nextS P (U (Instr.storeAt 4 x50_29 (Value.bool false))) (fun _ =>
 nextS P (V (Instr.indexAt 26 x24_7 (Value.int IntKind.i64 0))) (fun x52_31 =>
 nextS P (U (Instr.storeAt 2 x52_31 (Value.int IntKind.i64 3))) (fun _ =>
 LoopS [a0, x20_1, x28_9, x33_14, (Value.int IntKind.i64 0)] [0, 3, 7, 8, 9] fun nx1 e => S8_l1 nx1 ret pn e) pn) pn) pn) pn) pn) pn) pn) pn) pn) pn) pn) pn) pn) pn)) pn) pn) pn) pn) pn) pn) pn) pn) pn) pn) pn) pn) pn) pn) pn) pn
def mo8 : Nat → Mo
  | 18 => (Mo.take 0 (Mo.take 1 (Mo.eff 2 (Mo.take 3 (Mo.take 4 (Mo.take 5 (Mo.take 6 (Mo.take 7 (Mo.take 8 (Mo.take 9 (Mo.take 10 (Mo.take 11 (Mo.take 12 (Mo.take 13 (Mo.take 14 (Mo.take 15 (Mo.take 16 (Mo.take 17 (Mo.take 18 (Mo.take 19 (Mo.take 20 (Mo.take 21 (Mo.take 22 (Mo.take 23 Mo.done))))))))))))))))))))))))
  | _ => .done
def lv8 : Nat → List Nat
  | 13 => [0, 3, 7, 8, 9]
  | 21 => [0, 3, 7, 8, 9, 11, 17]
  | 26 => [0, 3, 7, 8, 9, 18, 19]
  | _ => []
theorem ok8 : okC Tryd.f8.ntmps mo8 (Tryd.f8.body.getD .skip) = true := by kernel_rfl
theorem eq8 (a0 : Value) (ret : Value → C) (pn : Pn) : D P mo8 lv8 pn (Tryd.f8.body.getD .skip) (finQ P Tryd.f8.results ret) (env0 [a0]) = S8 a0 ret pn := by kernel_rfl
theorem c8 {a0 : Value} {R : Ending → World → Prop} {w : World} (h : S8 a0 (fun v w => R (.returned v) w) (fun c w => R (.panicked c) w) w) : Calls P 8 #[a0] w R :=
  callsD mixed mo8 lv8 Tryd.func8 rfl (Nat.le_of_ble_eq_true rfl) ok8 ((congrFun (eq8 a0 _ _) w).mpr h)
theorem en8 (args : Array Value) (w : World) : (callFunc 8 args).run P w = .ok (.enter 8 args) w := by kernel_rfl

/-! ### evenhand / evenhandlaw19.shown -/
def S9 (ret : Value → C) (pn : Pn) : C :=
 callS P 16 #[] (fun x19_1 =>
 nextS P (V (Instr.buildSlice 34 1 #[(0, (Value.bool true))])) (fun x20_2 =>
 nextS P (V (Instr.buildSlice 25 2 #[(0, (Value.slice none 0 0)), (1, x20_2)])) (fun x21_3 =>
 nextS P (V (Instr.buildSlice 26 5 #[(0, (Value.int IntKind.i64 0)), (1, (Value.int IntKind.i64 2)), (2, (Value.int IntKind.i64 0)), (3, (Value.int IntKind.i64 9)), (4, (Value.int IntKind.i64 3))])) (fun x22_4 =>
 callS P 11 #[x19_1, x21_3, (Value.int IntKind.i64 2), x22_4] (fun x23_5 =>
 nextS P (binN .eql 30 (Operand.tmp 24) (Operand.const (Value.pointer none)) x23_5 (Value.pointer none)) (fun x25_6 =>
 condS x25_6
 (ret (Value.bool false))
 (nextS P (V (Instr.buildSlice 26 1 #[(0, (Value.int IntKind.i64 5))])) (fun x28_7 =>
 callS P 12 #[x23_5, (Value.int IntKind.i64 1), x28_7] (fun x29_8 =>
 nextS P (V (Instr.extract x29_8 0)) (fun x30_9 =>
 nextS P (V (Instr.extract x29_8 1)) (fun x31_10 =>
 nextS P (V (Instr.extract x29_8 2)) (fun x32_11 =>
 nextS P (V (Instr.buildSlice 26 1 #[(0, (Value.int IntKind.i64 5))])) (fun x35_12 =>
 callS P 12 #[x23_5, (Value.int IntKind.i64 1), x35_12] (fun x36_13 =>
 nextS P (V (Instr.extract x36_13 0)) (fun x37_14 =>
 nextS P (V (Instr.extract x36_13 1)) (fun x38_15 =>
 nextS P (V (Instr.extract x36_13 2)) (fun x39_16 =>
 nextS P (V (Instr.buildSlice 26 1 #[(0, (Value.int IntKind.i64 6))])) (fun x42_17 =>
 callS P 12 #[x23_5, (Value.int IntKind.i64 1), x42_17] (fun x43_18 =>
 nextS P (V (Instr.extract x43_18 0)) (fun x44_19 =>
 nextS P (V (Instr.extract x43_18 1)) (fun x45_20 =>
 nextS P (V (Instr.extract x43_18 2)) (fun x46_21 =>
 nextS P (V (Instr.buildSlice 26 1 #[(0, (Value.int IntKind.i64 5))])) (fun x49_22 =>
 callS P 12 #[x23_5, (Value.int IntKind.i64 1), x49_22] (fun x50_23 =>
 nextS P (V (Instr.extract x50_23 0)) (fun x51_24 =>
 nextS P (V (Instr.extract x50_23 1)) (fun x52_25 =>
 nextS P (V (Instr.extract x50_23 2)) (fun x53_26 =>
 nextS P (V (Instr.buildSlice 26 1 #[(0, (Value.int IntKind.i64 5))])) (fun x56_27 =>
 callS P 12 #[x23_5, (Value.int IntKind.i64 1), x56_27] (fun x57_28 =>
 nextS P (V (Instr.extract x57_28 0)) (fun x58_29 =>
 nextS P (V (Instr.extract x57_28 1)) (fun x59_30 =>
 nextS P (V (Instr.extract x57_28 2)) (fun x60_31 =>
 callS P 15 #[x23_5] (fun x62_32 =>
 nextS P (bltN .len #[35] 3 #[false] #[x30_9]) (fun x64_33 =>
 nextS P (binN .eql 3 (Operand.tmp 64) (Operand.const (Value.int IntKind.i64 0)) x64_33 (Value.int IntKind.i64 0)) (fun x65_34 =>
 grdS x65_34 true (fun K => K x31_10) fun x67_35 =>
 grdS x65_34 true (fun K => nextS P (V (Op.unary .not x67_35)) K pn) fun x68_36 =>
 nextS P (pickN x65_34 x68_36 (Value.bool false)) (fun x69_37 =>
 grdS x69_37 true (fun K => K x32_11) fun x71_38 =>
 grdS x69_37 true (fun K => nextS P (binN .eql 2 (Operand.tmp 71) (Operand.const (Value.int IntKind.i64 0)) x71_38 (Value.int IntKind.i64 0)) K pn) fun x72_39 =>
 nextS P (pickN x69_37 x72_39 (Value.bool false)) (fun x73_40 =>
 grdS x73_40 true (fun K => K x37_14) fun x75_41 =>
 grdS x73_40 true (fun K => callS P 17 #[x75_41] K pn) fun x76_42 =>
 grdS x73_40 true (fun K => nextS P (binN .eql 9 (Operand.tmp 76) (Operand.const (Value.string { data := #[48, 32, 112, 117, 115, 104, 32, 49, 53, 10, 49, 32, 114, 101, 116, 117, 114, 110, 10] })) x76_42 (Value.string { data := #[48, 32, 112, 117, 115, 104, 32, 49, 53, 10, 49, 32, 114, 101, 116, 117, 114, 110, 10] })) K pn) fun x77_43 =>
 nextS P (pickN x73_40 x77_43 (Value.bool false)) (fun x78_44 =>
 grdS x78_44 true (fun K => K x38_15) fun x80_45 =>
 nextS P (pickN x78_44 x80_45 (Value.bool false)) (fun x81_46 =>
 grdS x81_46 true (fun K => K x39_16) fun x83_47 =>
 grdS x81_46 true (fun K => nextS P (binN .eql 2 (Operand.tmp 83) (Operand.const (Value.int IntKind.i64 8)) x83_47 (Value.int IntKind.i64 8)) K pn) fun x84_48 =>
 nextS P (pickN x81_46 x84_48 (Value.bool false)) (fun x85_49 =>
 grdS x85_49 true (fun K => K x44_19) fun x87_50 =>
 grdS x85_49 true (fun K => nextS P (bltN .len #[35] 3 #[false] #[x87_50]) K pn) fun x88_51 =>
 grdS x85_49 true (fun K => nextS P (binN .eql 3 (Operand.tmp 88) (Operand.const (Value.int IntKind.i64 0)) x88_51 (Value.int IntKind.i64 0)) K pn) fun x89_52 =>
 nextS P (pickN x85_49 x89_52 (Value.bool false)) (fun x90_53 =>
 grdS x90_53 true (fun K => K x45_20) fun x92_54 =>
 grdS x90_53 true (fun K => nextS P (V (Op.unary .not x92_54)) K pn) fun x93_55 =>
 nextS P (pickN x90_53 x93_55 (Value.bool false)) (fun x94_56 =>
 grdS x94_56 true (fun K => K x46_21) fun x96_57 =>
 grdS x94_56 true (fun K => nextS P (binN .eql 2 (Operand.tmp 96) (Operand.const (Value.int IntKind.i64 50)) x96_57 (Value.int IntKind.i64 50)) K pn) fun x97_58 =>
 nextS P (pickN x94_56 x97_58 (Value.bool false)) (fun x98_59 =>
 grdS x98_59 true (fun K => K x51_24) fun x100_60 =>
 grdS x98_59 true (fun K => nextS P (bltN .len #[35] 3 #[false] #[x100_60]) K pn) fun x101_61 =>
 grdS x98_59 true (fun K => nextS P (binN .eql 3 (Operand.tmp 101) (Operand.const (Value.int IntKind.i64 2)) x101_61 (Value.int IntKind.i64 2)) K pn) fun x102_62 =>
 nextS P (pickN x98_59 x102_62 (Value.bool false)) (fun x103_63 =>
 grdS x103_63 true (fun K => K x52_25) fun x105_64 =>
 nextS P (pickN x103_63 x105_64 (Value.bool false)) (fun x106_65 =>
 grdS x106_65 true (fun K => K x53_26) fun x108_66 =>
 grdS x106_65 true (fun K => nextS P (binN .eql 2 (Operand.tmp 108) (Operand.const (Value.int IntKind.i64 0)) x108_66 (Value.int IntKind.i64 0)) K pn) fun x109_67 =>
 nextS P (pickN x106_65 x109_67 (Value.bool false)) (fun x110_68 =>
 grdS x110_68 true (fun K => K x58_29) fun x112_69 =>
 grdS x110_68 true (fun K => nextS P (bltN .len #[35] 3 #[false] #[x112_69]) K pn) fun x113_70 =>
 grdS x110_68 true (fun K => nextS P (binN .eql 3 (Operand.tmp 113) (Operand.const (Value.int IntKind.i64 0)) x113_70 (Value.int IntKind.i64 0)) K pn) fun x114_71 =>
 nextS P (pickN x110_68 x114_71 (Value.bool false)) (fun x115_72 =>
 grdS x115_72 true (fun K => K x59_30) fun x117_73 =>
 grdS x115_72 true (fun K => nextS P (V (Op.unary .not x117_73)) K pn) fun x118_74 =>
 nextS P (pickN x115_72 x118_74 (Value.bool false)) (fun x119_75 =>
 grdS x119_75 true (fun K => K x60_31) fun x121_76 =>
 grdS x119_75 true (fun K => nextS P (binN .eql 2 (Operand.tmp 121) (Operand.const (Value.int IntKind.i64 0)) x121_76 (Value.int IntKind.i64 0)) K pn) fun x122_77 =>
 nextS P (pickN x119_75 x122_77 (Value.bool false)) (fun x123_78 =>
 grdS x123_78 true (fun K => K x62_32) fun x126_79 =>
 grdS x123_78 true (fun K => nextS P (bltN .len #[40] 3 #[false] #[x126_79]) K pn) fun x127_80 =>
 grdS x123_78 true (fun K => nextS P (binN .eql 3 (Operand.tmp 127) (Operand.const (Value.int IntKind.i64 5)) x127_80 (Value.int IntKind.i64 5)) K pn) fun x128_81 =>
 nextS P (pickN x123_78 x128_81 (Value.bool false)) (fun x129_82 =>
 grdS x129_82 true (fun K => K x62_32) fun x131_83 =>
 grdS x129_82 true (fun K => nextS P (V (Instr.indexAt 40 x131_83 (Value.int IntKind.i64 0))) K pn) fun x132_84 =>
 grdS x129_82 true (fun K => nextS P (V (Instr.loadAt 44 x132_84)) K pn) fun x133_85 =>
 grdS x129_82 true (fun K => nextS P (V (Instr.build 44 #[(0, (Value.int IntKind.i64 1)), (1, (Value.int IntKind.i64 1))])) K pn) fun x134_86 =>
 grdS x129_82 true (fun K => nextS P (binN .eql 44 (Operand.tmp 133) (Operand.tmp 134) x133_85 x134_86) K pn) fun x135_87 =>
 nextS P (pickN x129_82 x135_87 (Value.bool false)) (fun x136_88 =>
 grdS x136_88 true (fun K => K x62_32) fun x138_89 =>
 grdS x136_88 true (fun K => nextS P (V (Instr.indexAt 40 x138_89 (Value.int IntKind.i64 1))) K pn) fun x139_90 =>
 grdS x136_88 true (fun K => nextS P (V (Instr.fieldAt 44 x139_90 0)) K pn) fun x140_91 =>
 grdS x136_88 true (fun K => nextS P (V (Instr.loadAt 3 x140_91)) K pn) fun x141_92 =>
 grdS x136_88 true (fun K => nextS P (binN .eql 3 (Operand.tmp 141) (Operand.const (Value.int IntKind.i64 2)) x141_92 (Value.int IntKind.i64 2)) K pn) fun x142_93 =>
 nextS P (pickN x136_88 x142_93 (Value.bool false)) (fun x143_94 =>
 grdS x143_94 true (fun K => K x62_32) fun x145_95 =>
 grdS x143_94 true (fun K => nextS P (V (Instr.indexAt 40 x145_95 (Value.int IntKind.i64 2))) K pn) fun x146_96 =>
 grdS x143_94 true (fun K => nextS P (V (Instr.fieldAt 44 x146_96 0)) K pn) fun x147_97 =>
 grdS x143_94 true (fun K => nextS P (V (Instr.loadAt 3 x147_97)) K pn) fun x148_98 =>
 grdS x143_94 true (fun K => nextS P (binN .eql 3 (Operand.tmp 148) (Operand.const (Value.int IntKind.i64 3)) x148_98 (Value.int IntKind.i64 3)) K pn) fun x149_99 =>
 nextS P (pickN x143_94 x149_99 (Value.bool false)) (fun x150_100 =>
 grdS x150_100 true (fun K => K x62_32) fun x152_101 =>
 grdS x150_100 true (fun K => nextS P (V (Instr.indexAt 40 x152_101 (Value.int IntKind.i64 3))) K pn) fun x153_102 =>
 grdS x150_100 true (fun K => nextS P (V (Instr.fieldAt 44 x153_102 0)) K pn) fun x154_103 =>
 grdS x150_100 true (fun K => nextS P (V (Instr.loadAt 3 x154_103)) K pn) fun x155_104 =>
 grdS x150_100 true (fun K => nextS P (binN .eql 3 (Operand.tmp 155) (Operand.const (Value.int IntKind.i64 2)) x155_104 (Value.int IntKind.i64 2)) K pn) fun x156_105 =>
 nextS P (pickN x150_100 x156_105 (Value.bool false)) (fun x157_106 =>
 grdS x157_106 true (fun K => K x62_32) fun x159_107 =>
 grdS x157_106 true (fun K => nextS P (V (Instr.indexAt 40 x159_107 (Value.int IntKind.i64 4))) K pn) fun x160_108 =>
 grdS x157_106 true (fun K => nextS P (V (Instr.fieldAt 44 x160_108 0)) K pn) fun x161_109 =>
 grdS x157_106 true (fun K => nextS P (V (Instr.loadAt 3 x161_109)) K pn) fun x162_110 =>
 grdS x157_106 true (fun K => nextS P (binN .eql 3 (Operand.tmp 162) (Operand.const (Value.int IntKind.i64 4)) x162_110 (Value.int IntKind.i64 4)) K pn) fun x163_111 =>
 nextS P (pickN x157_106 x163_111 (Value.bool false)) (fun x164_112 =>
 nextS P (pickN x164_112 (Value.bool true) (Value.bool false)) (fun x166_113 =>
 ret x166_113) pn) pn) pn) pn) pn) pn) pn) pn) pn) pn) pn) pn) pn) pn) pn) pn) pn) pn) pn) pn) pn) pn) pn) pn) pn) pn) pn) pn) pn) pn) pn) pn) pn) pn) pn) pn) pn) pn) pn) pn) pn) pn) pn) pn) pn) pn) pn) pn) pn)) pn) pn) pn) pn) pn) pn
def mo9 : Nat → Mo := fun _ => .done
def lv9 : Nat → List Nat := fun _ => []
theorem ok9 : okC Tryd.f9.ntmps mo9 (Tryd.f9.body.getD .skip) = true := by kernel_rfl
theorem eq9 (ret : Value → C) (pn : Pn) : D P mo9 lv9 pn (Tryd.f9.body.getD .skip) (finQ P Tryd.f9.results ret) (env0 []) = S9 ret pn := by kernel_rfl
theorem c9 {R : Ending → World → Prop} {w : World} (h : S9 (fun v w => R (.returned v) w) (fun c w => R (.panicked c) w) w) : Calls P 9 #[] w R :=
  callsD mixed mo9 lv9 Tryd.func9 rfl (Nat.le_of_ble_eq_true rfl) ok9 ((congrFun (eq9  _ _) w).mpr h)
theorem en9 (args : Array Value) (w : World) : (callFunc 9 args).run P w = .ok (.enter 9 args) w := by kernel_rfl

/-! ### evenhand / evenhandlaw19.few -/
def S10_l1 (nx1 : List Value → C) (ret : Value → C) (pn : Pn) (e : Env) : C :=
 nextS P (V (Instr.fieldAt 24 (e 1) 0)) (fun x8_6 =>
 nextS P (V (Instr.loadAt 22 x8_6)) (fun x9_7 =>
 nextS P (bltN .len #[22] 3 #[false] #[x9_7]) (fun x10_8 =>
 nextS P (binN .lss 3 (Operand.tmp 7) (Operand.tmp 10) (e 4) x10_8) (fun x11_9 =>
 grdS x11_9 true (fun K => K (e 4)) fun x13_10 =>
 grdS x11_9 true (fun K => nextS P (binN .lss 3 (Operand.tmp 13) (Operand.const (Value.int IntKind.i64 5)) x13_10 (Value.int IntKind.i64 5)) K pn) fun x14_11 =>
 nextS P (pickN x11_9 x14_11 (Value.bool false)) (fun x15_12 =>
 condS x15_12
 (nextS P (V (Instr.fieldAt 24 (e 1) 0)) (fun x18_13 =>
 nextS P (V (Instr.loadAt 22 x18_13)) (fun x19_14 =>
 nextS P (V (Instr.indexAt 22 x19_14 (e 4))) (fun x21_15 =>
 nextS P (V (Instr.loadAt 46 x21_15)) (fun x22_16 =>
 nextS P (V (Instr.alloc 46 true (.tuple #[]))) (fun x5_17 =>
 nextS P (U (Instr.storeAt 46 x5_17 x22_16)) (fun _ =>
 nextS P (V (Instr.fieldAt 46 x5_17 4)) (fun x23_19 =>
 nextS P (V (Instr.loadAt 35 x23_19)) (fun x24_20 =>
 nextS P (V (Instr.fieldAt 46 x5_17 4)) (fun x25_21 =>
 nextS P (V (Instr.loadAt 35 x25_21)) (fun x26_22 =>
 nextS P (bltN .len #[35] 3 #[false] #[x26_22]) (fun x27_23 =>
 nextS P (bltN .min #[3, 3] 3 #[false, true] #[x27_23, (Value.int IntKind.i64 60)]) (fun x28_24 =>
 nextS P (V (Instr.sliceAt 35 x24_20 none (some x28_24) none)) (fun x29_25 =>
 nextS P (V (Instr.fieldAt 46 x5_17 4)) (fun x30_26 =>
 nextS P (U (Instr.storeAt 35 x30_26 x29_25)) (fun _ =>
 nextS P (V (Instr.fieldAt 46 x5_17 1)) (fun x31_28 =>
 nextS P (V (Instr.loadAt 3 x31_28)) (fun x32_29 =>
 nextS P (bltN .max #[3, 3] 3 #[false, true] #[x32_29, (Value.int IntKind.i64 0)]) (fun x33_30 =>
 nextS P (bltN .min #[3, 3] 3 #[false, true] #[x33_30, (Value.int IntKind.i64 8)]) (fun x34_31 =>
 nextS P (V (Instr.fieldAt 46 x5_17 1)) (fun x35_32 =>
 nextS P (U (Instr.storeAt 3 x35_32 x34_31)) (fun _ =>
 nextS P (V (Instr.fieldAt 24 (e 3) 0)) (fun x36_34 =>
 nextS P (V (Instr.loadAt 22 x36_34)) (fun x37_35 =>
 nextS P (V (Instr.loadAt 46 x5_17)) (fun x38_36 =>
 nextS P (V (Instr.buildSlice 22 1 #[(0, x38_36)])) (fun x39_37 =>
 nextS P (bltN .append #[22, 22] 22 #[false, false] #[x37_35, x39_37]) (fun x40_38 =>
 nextS P (V (Instr.fieldAt 24 (e 3) 0)) (fun x41_39 =>
 nextS P (U (Instr.storeAt 22 x41_39 x40_38)) (fun _ =>
 nextS P (binN .add 3 (Operand.tmp 16) (Operand.const (Value.int IntKind.i64 1)) (e 4) (Value.int IntKind.i64 1)) (fun x17_41 =>
 nx1 [(e 1), (e 2), (e 3), x17_41]) pn) pn) pn) pn) pn) pn) pn) pn) pn) pn) pn) pn) pn) pn) pn) pn) pn) pn) pn) pn) pn) pn) pn) pn) pn) pn) pn) pn) pn)
 (nextS P (V (Instr.loadAt 24 (e 3))) (fun x42_42 =>
 nextS P (U (Instr.storeAt 24 (e 2) x42_42)) (fun _ =>
 cellS P 24 (e 2) ret) pn) pn)) pn) pn) pn) pn) pn
def S10 (a0 : Value) (ret : Value → C) (pn : Pn) : C :=
 nextS P (V (Instr.box 24 a0)) (fun x1_1 =>
 nextS P (V (Instr.alloc 24 true (.tuple #[]))) (fun x2_2 =>
 nextS P (V (Instr.build 24 #[])) (fun x6_3 =>
 nextS P (V (Instr.alloc 24 true (.tuple #[]))) (fun x3_4 =>
 nextS P (U (Instr.storeAt 24 x3_4 x6_3)) (fun _ =>
 LoopS [x1_1, x2_2, x3_4, (Value.int IntKind.i64 0)] [1, 2, 3, 4] fun nx1 e => S10_l1 nx1 ret pn e) pn) pn) pn) pn) pn
def mo10 : Nat → Mo := fun _ => .done
def lv10 : Nat → List Nat
  | 3 => [1, 2, 3, 4]
  | _ => []
theorem ok10 : okC Tryd.f10.ntmps mo10 (Tryd.f10.body.getD .skip) = true := by kernel_rfl
theorem eq10 (a0 : Value) (ret : Value → C) (pn : Pn) : D P mo10 lv10 pn (Tryd.f10.body.getD .skip) (finQ P Tryd.f10.results ret) (env0 [a0]) = S10 a0 ret pn := by kernel_rfl
theorem c10 {a0 : Value} {R : Ending → World → Prop} {w : World} (h : S10 a0 (fun v w => R (.returned v) w) (fun c w => R (.panicked c) w) w) : Calls P 10 #[a0] w R :=
  callsD mixed mo10 lv10 Tryd.func10 rfl (Nat.le_of_ble_eq_true rfl) ok10 ((congrFun (eq10 a0 _ _) w).mpr h)
theorem en10 (args : Array Value) (w : World) : (callFunc 10 args).run P w = .ok (.enter 10 args) w := by kernel_rfl

end Go.Proofs.YtkonigmefmgepaaDoor
