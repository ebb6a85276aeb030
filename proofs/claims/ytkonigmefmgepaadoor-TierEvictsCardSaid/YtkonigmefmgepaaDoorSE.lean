/- The shallow form of TierEvicts, where a load out of new memory is taken in its turn, written by wip/gen.py. -/
import Derived.Test.YtkonigmefmgepaaDoorW26
namespace Go.Proofs.YtkonigmefmgepaaDoor
set_option maxRecDepth 100000
set_option linter.unusedVariables false
/-! ### evenhand / evenhandlaw19.TierEvicts -/
def T7_k5 (nx4 : List Value → C) (ret : Value → C) (pn : Pn) (y0 y1 y5 y18 y19 y20 : Value) : C :=
 nextS P (binN .add 3 (Operand.tmp 108) (Operand.const (Value.int IntKind.i64 1)) y20 (Value.int IntKind.i64 1)) (fun x109_98 =>
 nx4 [y0, y1, y5, y18, y19, x109_98]) pn
def T7_l4 (nx4 : List Value → C) (ret : Value → C) (pn : Pn) (e : Env) : C :=
 nextS P (bltN .len #[40] 3 #[false] #[(e 19)]) (fun x106_87 =>
 nextS P (binN .lss 3 (Operand.tmp 104) (Operand.tmp 106) (e 20) x106_87) (fun x107_88 =>
 condS x107_88
 (nextS P (V (Instr.indexAt 40 (e 19) (e 20))) (fun x112_89 =>
 nextS P (V (Instr.fieldAt 44 x112_89 0)) (fun x113_90 =>
 nextS P (V (Instr.loadAt 3 x113_90)) (fun x114_91 =>
 nextS P (binN .eql 3 (Operand.tmp 114) (Operand.const (Value.int IntKind.i64 4)) x114_91 (Value.int IntKind.i64 4)) (fun x115_92 =>
 condS x115_92
 (nextS P (binN .add 3 (Operand.tmp 116) (Operand.const (Value.int IntKind.i64 1)) (e 18) (Value.int IntKind.i64 1)) (fun x117_93 =>
 nextS P (V (Instr.indexAt 40 (e 19) (e 20))) (fun x120_94 =>
 nextS P (V (Instr.fieldAt 44 x120_94 1)) (fun x121_95 =>
 nextS P (V (Instr.loadAt 3 x121_95)) (fun x122_96 =>
 nextS P (binN .neq 3 (Operand.tmp 122) (Operand.tmp 123) x122_96 x117_93) (fun x124_97 =>
 condS x124_97
 (ret (Value.bool false))
 (T7_k5 nx4 ret pn (e 0) (e 1) (e 5) x117_93 (e 19) (e 20))) pn) pn) pn) pn) pn)
 (T7_k5 nx4 ret pn (e 0) (e 1) (e 5) (e 18) (e 19) (e 20))) pn) pn) pn) pn)
 (grdS (e 5) true (fun K => K (e 18)) fun x127_99 =>
 grdS (e 5) true (fun K => K (e 1)) fun x128_100 =>
 grdS (e 5) true (fun K => K (e 0)) fun x129_101 =>
 grdS (e 5) true (fun K => nextS P (binN .sub 3 (Operand.tmp 128) (Operand.tmp 129) x128_100 x129_101) K pn) fun x130_102 =>
 grdS (e 5) true (fun K => nextS P (bltN .max #[3, 3] 3 #[false, true] #[x130_102, (Value.int IntKind.i64 0)]) K pn) fun x131_103 =>
 grdS (e 5) true (fun K => nextS P (binN .eql 3 (Operand.tmp 127) (Operand.tmp 131) x127_99 x131_103) K pn) fun x132_104 =>
 nextS P (pickN (e 5) x132_104 (Value.bool false)) (fun x133_105 =>
 ret x133_105) pn)) pn) pn
def T7_l3 (nx3 : List Value → C) (ret : Value → C) (pn : Pn) (e : Env) : C :=
 nextS P (binN .leq 3 (Operand.tmp 78) (Operand.tmp 79) (e 14) (e 1)) (fun x80_73 =>
 condS x80_73
 (nextS P (V (Instr.buildSlice 26 1 #[(0, (Value.int IntKind.i64 3))])) (fun x86_74 =>
 callS P 12 #[(e 9), (e 14), x86_74] (fun x87_75 =>
 nextS P (V (Instr.extract x87_75 0)) (fun x88_76 =>
 nextS P (V (Instr.extract x87_75 1)) (fun x89_77 =>
 nextS P (V (Instr.extract x87_75 2)) (fun x90_78 =>
 nextS P (binN .sub 3 (Operand.tmp 93) (Operand.tmp 94) (e 1) (e 0)) (fun x95_79 =>
 nextS P (binN .gtr 3 (Operand.tmp 92) (Operand.tmp 95) (e 14) x95_79) (fun x96_80 =>
 nextS P (binN .neq 4 (Operand.tmp 91) (Operand.tmp 96) x89_77 x96_80) (fun x97_81 =>
 grdS x97_81 false (fun K => K x90_78) fun x99_82 =>
 grdS x97_81 false (fun K => nextS P (binN .neq 2 (Operand.tmp 99) (Operand.const (Value.int IntKind.i64 0)) x99_82 (Value.int IntKind.i64 0)) K pn) fun x100_83 =>
 nextS P (pickN x97_81 (Value.bool true) x100_83) (fun x101_84 =>
 condS x101_84
 (ret (Value.bool false))
 (nextS P (binN .add 3 (Operand.tmp 81) (Operand.const (Value.int IntKind.i64 1)) (e 14) (Value.int IntKind.i64 1)) (fun x82_85 =>
 nx3 [(e 0), (e 1), (e 5), (e 9), x82_85]) pn)) pn) pn) pn) pn) pn) pn) pn) pn) pn)
 (callS P 15 #[(e 9)] (fun x103_86 =>
 LoopS [(e 0), (e 1), (e 5), (Value.int IntKind.i64 0), x103_86, (Value.int IntKind.i64 0)] [0, 1, 5, 18, 19, 20] fun nx4 e => T7_l4 nx4 ret pn e) pn)) pn
def T7_l2 (nx2 : List Value → C) (ret : Value → C) (pn : Pn) (e : Env) : C :=
 nextS P (binN .leq 3 (Operand.tmp 59) (Operand.tmp 60) (e 10) (e 1)) (fun x61_62 =>
 condS x61_62
 (nextS P (V (Instr.buildSlice 26 1 #[(0, (Value.int IntKind.i64 3))])) (fun x67_63 =>
 callS P 12 #[(e 9), (e 10), x67_63] (fun x68_64 =>
 nextS P (V (Instr.extract x68_64 0)) (fun x69_65 =>
 nextS P (V (Instr.extract x68_64 1)) (fun x70_66 =>
 nextS P (V (Instr.extract x68_64 2)) (fun x71_67 =>
 nextS P (V (Op.unary .not x70_66)) (fun x73_68 =>
 grdS x73_68 false (fun K => K x71_67) fun x75_69 =>
 grdS x73_68 false (fun K => nextS P (binN .neq 2 (Operand.tmp 75) (Operand.const (Value.int IntKind.i64 8)) x75_69 (Value.int IntKind.i64 8)) K pn) fun x76_70 =>
 nextS P (pickN x73_68 (Value.bool true) x76_70) (fun x77_71 =>
 condS x77_71
 (ret (Value.bool false))
 (nextS P (binN .add 3 (Operand.tmp 62) (Operand.const (Value.int IntKind.i64 1)) (e 10) (Value.int IntKind.i64 1)) (fun x63_72 =>
 nx2 [(e 0), (e 1), (e 5), (e 9), x63_72]) pn)) pn) pn) pn) pn) pn) pn) pn)
 (LoopS [(e 0), (e 1), (e 5), (e 9), (Value.int IntKind.i64 1)] [0, 1, 5, 9, 14] fun nx3 e => T7_l3 nx3 ret pn e)) pn
def T7_l1 (nx1 : List Value → C) (ret : Value → C) (pn : Pn) (e : Env) : C :=
 nextS P (binN .lss 3 (Operand.tmp 36) (Operand.tmp 37) (e 8) (e 1)) (fun x38_16 =>
 condS x38_16
 (DrawS fun S =>
 pureS P (V (Instr.fieldAt 24 (e 6) 0)) fun x41_17 =>
 fun w => (nextS P (V (Instr.loadAt 22 x41_17)) (fun x42_18 w => S w ∧ (callS P 16 #[] (fun x43_19 w => S w ∧ (pureS P (V (Instr.field 24 x43_19 0)) fun x44_20 =>
 pureS P (V (Instr.indexAt 22 x44_20 (Value.int IntKind.i64 1))) fun x45_21 =>
 nextS P (V (Instr.loadAt 46 x45_21)) (fun x46_22 w => S w ∧ (nextS P (V (Instr.buildSlice 22 1 #[(0, x46_22)])) (fun x47_23 w => S w ∧ (nextS P (bltN .append #[22, 22] 22 #[false, false] #[x42_18, x47_23]) (fun x48_24 w => S w ∧ (pureS P (V (Instr.fieldAt 24 (e 6) 0)) fun x49_25 =>
 nextS P (U (Instr.storeAt 22 x49_25 x48_24)) (fun _ w => S w ∧ (nextS P (V (Instr.buildSlice 26 1 #[(0, (Value.int IntKind.i64 1))])) (fun x51_27 =>
 nextS P (bltN .append #[26, 26] 26 #[false, false] #[(e 7), x51_27]) (fun x52_28 =>
 nextS P (binN .add 3 (Operand.tmp 39) (Operand.const (Value.int IntKind.i64 1)) (e 8) (Value.int IntKind.i64 1)) (fun x40_29 =>
 nx1 [(e 0), (e 1), (e 5), (e 6), x52_28, x40_29]) pn) pn) pn) w) pn) w) pn) w) pn) w) pn) w) pn) w) pn) w ∧ (callS P 16 #[] (fun x43_30 w => S w ∧ (pureS P (V (Instr.field 24 x43_30 0)) fun x44_31 =>
 pureS P (V (Instr.indexAt 22 x44_31 (Value.int IntKind.i64 1))) fun x45_32 =>
 fun w => (nextS P (V (Instr.loadAt 22 x41_17)) (fun x42_33 w => S w ∧ (nextS P (V (Instr.loadAt 46 x45_32)) (fun x46_34 w => S w ∧ (nextS P (V (Instr.buildSlice 22 1 #[(0, x46_34)])) (fun x47_35 w => S w ∧ (nextS P (bltN .append #[22, 22] 22 #[false, false] #[x42_33, x47_35]) (fun x48_36 w => S w ∧ (pureS P (V (Instr.fieldAt 24 (e 6) 0)) fun x49_37 =>
 nextS P (U (Instr.storeAt 22 x49_37 x48_36)) (fun _ w => S w ∧ (nextS P (V (Instr.buildSlice 26 1 #[(0, (Value.int IntKind.i64 1))])) (fun x51_39 =>
 nextS P (bltN .append #[26, 26] 26 #[false, false] #[(e 7), x51_39]) (fun x52_40 =>
 nextS P (binN .add 3 (Operand.tmp 39) (Operand.const (Value.int IntKind.i64 1)) (e 8) (Value.int IntKind.i64 1)) (fun x40_41 =>
 nx1 [(e 0), (e 1), (e 5), (e 6), x52_40, x40_41]) pn) pn) pn) w) pn) w) pn) w) pn) w) pn) w) pn) w ∧ (nextS P (V (Instr.loadAt 46 x45_32)) (fun x46_42 w => S w ∧ (fun w => (nextS P (V (Instr.loadAt 22 x41_17)) (fun x42_43 w => S w ∧ (nextS P (V (Instr.buildSlice 22 1 #[(0, x46_42)])) (fun x47_44 w => S w ∧ (nextS P (bltN .append #[22, 22] 22 #[false, false] #[x42_43, x47_44]) (fun x48_45 w => S w ∧ (pureS P (V (Instr.fieldAt 24 (e 6) 0)) fun x49_46 =>
 nextS P (U (Instr.storeAt 22 x49_46 x48_45)) (fun _ w => S w ∧ (nextS P (V (Instr.buildSlice 26 1 #[(0, (Value.int IntKind.i64 1))])) (fun x51_48 =>
 nextS P (bltN .append #[26, 26] 26 #[false, false] #[(e 7), x51_48]) (fun x52_49 =>
 nextS P (binN .add 3 (Operand.tmp 39) (Operand.const (Value.int IntKind.i64 1)) (e 8) (Value.int IntKind.i64 1)) (fun x40_50 =>
 nx1 [(e 0), (e 1), (e 5), (e 6), x52_49, x40_50]) pn) pn) pn) w) pn) w) pn) w) pn) w) pn) w ∧ (nextS P (V (Instr.buildSlice 22 1 #[(0, x46_42)])) (fun x47_51 w => S w ∧ (nextS P (V (Instr.loadAt 22 x41_17)) (fun x42_52 w => S w ∧ (nextS P (bltN .append #[22, 22] 22 #[false, false] #[x42_52, x47_51]) (fun x48_53 w => S w ∧ (pureS P (V (Instr.fieldAt 24 (e 6) 0)) fun x49_54 =>
 nextS P (U (Instr.storeAt 22 x49_54 x48_53)) (fun _ w => S w ∧ (nextS P (V (Instr.buildSlice 26 1 #[(0, (Value.int IntKind.i64 1))])) (fun x51_56 =>
 nextS P (bltN .append #[26, 26] 26 #[false, false] #[(e 7), x51_56]) (fun x52_57 =>
 nextS P (binN .add 3 (Operand.tmp 39) (Operand.const (Value.int IntKind.i64 1)) (e 8) (Value.int IntKind.i64 1)) (fun x40_58 =>
 nx1 [(e 0), (e 1), (e 5), (e 6), x52_57, x40_58]) pn) pn) pn) w) pn) w) pn) w) pn) w) pn) w) w) pn) w) w) pn) w)
 (nextS P (V (Instr.loadAt 24 (e 6))) (fun x53_59 =>
 callS P 11 #[x53_59, (Value.slice none 0 0), (e 0), (e 7)] (fun x56_60 =>
 nextS P (binN .eql 30 (Operand.tmp 57) (Operand.const (Value.pointer none)) x56_60 (Value.pointer none)) (fun x58_61 =>
 condS x58_61
 (ret (Value.bool false))
 (LoopS [(e 0), (e 1), (e 5), x56_60, (Value.int IntKind.i64 1)] [0, 1, 5, 9, 10] fun nx2 e => T7_l2 nx2 ret pn e)) pn) pn) pn)) pn
def T7 (a0 a1 : Value) (ret : Value → C) (pn : Pn) : C :=
 callS P 9 #[] (fun x21_1 =>
 nextS P (binN .and 3 (Operand.tmp 22) (Operand.const (Value.int IntKind.i64 65535)) a0 (Value.int IntKind.i64 65535)) (fun x23_2 =>
 nextS P (binN .rem 3 (Operand.tmp 23) (Operand.const (Value.int IntKind.i64 8)) x23_2 (Value.int IntKind.i64 8)) (fun x24_3 =>
 nextS P (binN .add 3 (Operand.const (Value.int IntKind.i64 1)) (Operand.tmp 24) (Value.int IntKind.i64 1) x24_3) (fun x25_4 =>
 nextS P (binN .and 3 (Operand.tmp 26) (Operand.const (Value.int IntKind.i64 65535)) a1 (Value.int IntKind.i64 65535)) (fun x27_5 =>
 nextS P (binN .rem 3 (Operand.tmp 27) (Operand.const (Value.int IntKind.i64 12)) x27_5 (Value.int IntKind.i64 12)) (fun x28_6 =>
 nextS P (binN .add 3 (Operand.const (Value.int IntKind.i64 1)) (Operand.tmp 28) (Value.int IntKind.i64 1) x28_6) (fun x29_7 =>
 callS P 16 #[] (fun x30_8 =>
 nextS P (V (Instr.field 24 x30_8 0)) (fun x31_9 =>
 nextS P (V (Instr.indexAt 22 x31_9 (Value.int IntKind.i64 0))) (fun x32_10 =>
 nextS P (V (Instr.loadAt 46 x32_10)) (fun x33_11 =>
 nextS P (V (Instr.buildSlice 22 1 #[(0, x33_11)])) (fun x34_12 =>
 nextS P (V (Instr.build 24 #[(0, x34_12)])) (fun x35_13 =>
 nextS P (V (Instr.alloc 24 true (.tuple #[]))) (fun x6_14 =>
 nextS P (U (Instr.storeAt 24 x6_14 x35_13)) (fun _ =>
 LoopS [x25_4, x29_7, x21_1, x6_14, (Value.slice none 0 0), (Value.int IntKind.i64 0)] [0, 1, 5, 6, 7, 8] fun nx1 e => T7_l1 nx1 ret pn e) pn) pn) pn) pn) pn) pn) pn) pn) pn) pn) pn) pn) pn) pn) pn
def mo7e : Nat → Mo
  | 9 => (Mo.take 0 (Mo.two 1 (Mo.eff 2 (Mo.take 3 (Mo.take 4 (Mo.eff 5 (Mo.eff 6 (Mo.eff 7 (Mo.take 8 (Mo.eff 9 Mo.done)))))))) 2 (Mo.take 3 (Mo.take 4 (Mo.two 1 (Mo.eff 5 (Mo.eff 6 (Mo.eff 7 (Mo.take 8 (Mo.eff 9 Mo.done))))) 5 (Mo.two 1 (Mo.eff 6 (Mo.eff 7 (Mo.take 8 (Mo.eff 9 Mo.done)))) 6 (Mo.eff 1 (Mo.eff 7 (Mo.take 8 (Mo.eff 9 Mo.done))))))))))
  | _ => .done
def lv7e : Nat → List Nat
  | 7 => [0, 1, 5, 6, 7, 8]
  | 15 => [0, 1, 5, 9, 10]
  | 21 => [0, 1, 5, 9, 14]
  | 29 => [0, 1, 5, 18, 19, 20]
  | _ => []
theorem ok7e : okC Tryd.f7.ntmps mo7e (Tryd.f7.body.getD .skip) = true := by kernel_rfl
theorem eq7e (a0 a1 : Value) (ret : Value → C) (pn : Pn) : D P mo7e lv7e pn (Tryd.f7.body.getD .skip) (finQ P Tryd.f7.results ret) (env0 [a0, a1]) = T7 a0 a1 ret pn := by kernel_rfl
theorem c7e {a0 a1 : Value} {R : Ending → World → Prop} {w : World} (h : T7 a0 a1 (fun v w => R (.returned v) w) (fun c w => R (.panicked c) w) w) : Calls P 7 #[a0, a1] w R :=
  callsD mixed mo7e lv7e Tryd.func7 rfl (Nat.le_of_ble_eq_true rfl) ok7e ((congrFun (eq7e a0 a1 _ _) w).mpr h)


theorem r7e {W0 : World} {l : List As} {a0 a1 : Value} {K : Value → C} {pn : Pn} (h : Run W0 l (T7 a0 a1 K pn)) : Run W0 l (callS P 7 #[a0, a1] K pn) := run_call (en7 _) fun w hw => c7e (h w hw)
end Go.Proofs.YtkonigmefmgepaaDoor
