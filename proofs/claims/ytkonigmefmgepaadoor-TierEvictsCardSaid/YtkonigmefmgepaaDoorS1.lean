/- The shallow forms of the loaded functions, written by wip/gen.py out of the print of the loaded program: no idea stands in it. -/
import Derived.Test.YtkonigmefmgepaaDoorS0
import Derived.Test.YtkonigmefmgepaaDoorProg
namespace Go.Proofs.YtkonigmefmgepaaDoor
set_option maxRecDepth 100000
set_option linter.unusedVariables false
/-! ### evenhand / tier.New -/
def S11_l4 (nx4 : List Value → C) (ret : Value → C) (pn : Pn) (e : Env) : C :=
 nextS P (binN .lss 3 (Operand.tmp 84) (Operand.tmp 83) (e 84) (e 83)) (fun x85_82 =>
 condS x85_82
 (nextS P (V (Instr.indexAt 22 (e 82) (e 84))) (fun x86_83 =>
 nextS P (V (Instr.loadAt 46 x86_83)) (fun x87_84 =>
 nextS P (V (Instr.alloc 46 true (.tuple #[]))) (fun x18_85 =>
 nextS P (U (Instr.storeAt 46 x18_85 x87_84)) (fun _ =>
 nextS P (V (Instr.fieldAt 46 x18_85 1)) (fun x89_87 =>
 nextS P (V (Instr.loadAt 3 x89_87)) (fun x90_88 =>
 nextS P (V (Instr.buildSlice 63 1 #[(0, x90_88)])) (fun x91_89 =>
 nextS P (bltN .append #[63, 63] 63 #[false, false] #[(e 16), x91_89]) (fun x92_90 =>
 nextS P (binN .add 3 (Operand.tmp 84) (Operand.const (Value.int IntKind.i64 1)) (e 84) (Value.int IntKind.i64 1)) (fun x93_91 =>
 nx4 [(e 9), x92_90, (e 82), (e 83), x93_91]) pn) pn) pn) pn) pn) pn) pn) pn) pn)
 (callS P 21 #[(e 16)] (fun x96_92 =>
 nextS P (nilN (e 9)) (fun x97_93 =>
 nextS P (V (Instr.fieldAt 60 x97_93 4)) (fun x98_94 =>
 nextS P (U (Instr.storeAt 58 x98_94 x96_92)) (fun _ =>
 ret (e 9)) pn) pn) pn) pn)) pn
def S11_l3 (nx3 : List Value → C) (ret : Value → C) (pn : Pn) (e : Env) : C :=
 nextS P (binN .lss 3 (Operand.tmp 71) (Operand.tmp 70) (e 71) (e 70)) (fun x72_71 =>
 condS x72_71
 (nextS P (V (Instr.indexAt 26 (e 69) (e 71))) (fun x73_72 =>
 nextS P (V (Instr.loadAt 2 x73_72)) (fun x74_73 =>
 nextS P (nilN (e 9)) (fun x76_74 =>
 nextS P (V (Instr.fieldAt 60 x76_74 3)) (fun x77_75 =>
 nextS P (V (Instr.loadAt 56 x77_75)) (fun x78_76 =>
 commS P (sendN x78_76 x74_73) fun _ =>
 nextS P (binN .add 3 (Operand.tmp 71) (Operand.const (Value.int IntKind.i64 1)) (e 71) (Value.int IntKind.i64 1)) (fun x80_78 =>
 nx3 [(e 4), (e 9), (e 69), (e 70), x80_78]) pn) pn) pn) pn) pn) pn)
 (nextS P (V (Instr.fieldAt 24 (e 4) 0)) (fun x81_79 =>
 nextS P (V (Instr.loadAt 22 x81_79)) (fun x82_80 =>
 nextS P (bltN .len #[22] 3 #[false] #[x82_80]) (fun x83_81 =>
 LoopS [(e 9), (Value.slice none 0 0), x82_80, x83_81, (Value.int IntKind.i64 0)] [9, 16, 82, 83, 84] fun nx4 e => S11_l4 nx4 ret pn e) pn) pn) pn)) pn
def S11_l2 (nx2 : List Value → C) (ret : Value → C) (pn : Pn) (e : Env) : C :=
 nextS P (binN .lss 3 (Operand.tmp 53) (Operand.tmp 52) (e 53) (e 52)) (fun x54_42 =>
 condS x54_42
 (nextS P (V (Instr.indexAt 25 (e 51) (e 53))) (fun x55_43 =>
 nextS P (V (Instr.loadAt 34 x55_43)) (fun x56_44 =>
 DrawS fun S =>
 pureS P (nilN (e 9)) fun x59_45 =>
 pureS P (V (Instr.fieldAt 60 x59_45 2)) fun x60_46 =>
 fun w => (nextS P (V (Instr.loadAt 25 x60_46)) (fun x61_47 w => S w ∧ (callS P 20 #[x56_44] (fun x63_48 w => S w ∧ (nextS P (V (Instr.buildSlice 25 1 #[(0, x63_48)])) (fun x64_49 w => S w ∧ (nextS P (bltN .append #[25, 25] 25 #[false, false] #[x61_47, x64_49]) (fun x65_50 w => S w ∧ (pureS P (nilN (e 9)) fun x66_51 =>
 pureS P (V (Instr.fieldAt 60 x66_51 2)) fun x67_52 =>
 nextS P (U (Instr.storeAt 25 x67_52 x65_50)) (fun _ w => S w ∧ (nextS P (binN .add 3 (Operand.tmp 53) (Operand.const (Value.int IntKind.i64 1)) (e 53) (Value.int IntKind.i64 1)) (fun x68_54 =>
 nx2 [(e 3), (e 4), (e 9), (e 51), (e 52), x68_54]) pn) w) pn) w) pn) w) pn) w) pn) w) pn) w ∧ (callS P 20 #[x56_44] (fun x63_55 w => S w ∧ (fun w => (nextS P (V (Instr.loadAt 25 x60_46)) (fun x61_56 w => S w ∧ (nextS P (V (Instr.buildSlice 25 1 #[(0, x63_55)])) (fun x64_57 w => S w ∧ (nextS P (bltN .append #[25, 25] 25 #[false, false] #[x61_56, x64_57]) (fun x65_58 w => S w ∧ (pureS P (nilN (e 9)) fun x66_59 =>
 pureS P (V (Instr.fieldAt 60 x66_59 2)) fun x67_60 =>
 nextS P (U (Instr.storeAt 25 x67_60 x65_58)) (fun _ w => S w ∧ (nextS P (binN .add 3 (Operand.tmp 53) (Operand.const (Value.int IntKind.i64 1)) (e 53) (Value.int IntKind.i64 1)) (fun x68_62 =>
 nx2 [(e 3), (e 4), (e 9), (e 51), (e 52), x68_62]) pn) w) pn) w) pn) w) pn) w) pn) w ∧ (nextS P (V (Instr.buildSlice 25 1 #[(0, x63_55)])) (fun x64_63 w => S w ∧ (nextS P (V (Instr.loadAt 25 x60_46)) (fun x61_64 w => S w ∧ (nextS P (bltN .append #[25, 25] 25 #[false, false] #[x61_64, x64_63]) (fun x65_65 w => S w ∧ (pureS P (nilN (e 9)) fun x66_66 =>
 pureS P (V (Instr.fieldAt 60 x66_66 2)) fun x67_67 =>
 nextS P (U (Instr.storeAt 25 x67_67 x65_65)) (fun _ w => S w ∧ (nextS P (binN .add 3 (Operand.tmp 53) (Operand.const (Value.int IntKind.i64 1)) (e 53) (Value.int IntKind.i64 1)) (fun x68_69 =>
 nx2 [(e 3), (e 4), (e 9), (e 51), (e 52), x68_69]) pn) w) pn) w) pn) w) pn) w) pn) w) w) pn) w) pn) pn)
 (nextS P (bltN .len #[26] 3 #[false] #[(e 3)]) (fun x70_70 =>
 LoopS [(e 4), (e 9), (e 3), x70_70, (Value.int IntKind.i64 0)] [4, 9, 69, 70, 71] fun nx3 e => S11_l3 nx3 ret pn e) pn)) pn
def S11_l1 (nx1 : List Value → C) (ret : Value → C) (pn : Pn) (e : Env) : C :=
 nextS P (binN .lss 3 (Operand.tmp 30) (Operand.tmp 29) (e 30) (e 29)) (fun x31_11 =>
 condS x31_11
 (nextS P (V (Instr.indexAt 22 (e 28) (e 30))) (fun x32_12 =>
 nextS P (V (Instr.loadAt 46 x32_12)) (fun x33_13 =>
 nextS P (V (Instr.alloc 46 true (.tuple #[]))) (fun x11_14 =>
 nextS P (U (Instr.storeAt 46 x11_14 x33_13)) (fun _ =>
 nextS P (V (Instr.fieldAt 46 x11_14 4)) (fun x34_16 =>
 nextS P (V (Instr.loadAt 35 x34_16)) (fun x35_17 =>
 callS P 19 #[x35_17] (fun x36_18 =>
 nextS P (V (Instr.fieldAt 46 x11_14 4)) (fun x37_19 =>
 nextS P (U (Instr.storeAt 35 x37_19 x36_18)) (fun _ =>
 DrawS fun S =>
 pureS P (nilN (e 9)) fun x40_21 =>
 pureS P (V (Instr.fieldAt 60 x40_21 1)) fun x41_22 =>
 pureS P (V (Instr.fieldAt 24 x41_22 0)) fun x42_23 =>
 takeS S P (V (Instr.loadAt 46 x11_14)) fun x44_24 =>
 fun w => (nextS P (V (Instr.loadAt 22 x42_23)) (fun x43_25 w => S w ∧ (nextS P (V (Instr.buildSlice 22 1 #[(0, x44_24)])) (fun x45_26 w => S w ∧ (nextS P (bltN .append #[22, 22] 22 #[false, false] #[x43_25, x45_26]) (fun x46_27 w => S w ∧ (pureS P (nilN (e 9)) fun x47_28 =>
 pureS P (V (Instr.fieldAt 60 x47_28 1)) fun x48_29 =>
 pureS P (V (Instr.fieldAt 24 x48_29 0)) fun x49_30 =>
 nextS P (U (Instr.storeAt 22 x49_30 x46_27)) (fun _ w => S w ∧ (nextS P (binN .add 3 (Operand.tmp 30) (Operand.const (Value.int IntKind.i64 1)) (e 30) (Value.int IntKind.i64 1)) (fun x50_32 =>
 nx1 [(e 1), (e 3), (e 4), (e 9), (e 28), (e 29), x50_32]) pn) w) pn) w) pn) w) pn) w) pn) w ∧ (nextS P (V (Instr.buildSlice 22 1 #[(0, x44_24)])) (fun x45_33 w => S w ∧ (nextS P (V (Instr.loadAt 22 x42_23)) (fun x43_34 w => S w ∧ (nextS P (bltN .append #[22, 22] 22 #[false, false] #[x43_34, x45_33]) (fun x46_35 w => S w ∧ (pureS P (nilN (e 9)) fun x47_36 =>
 pureS P (V (Instr.fieldAt 60 x47_36 1)) fun x48_37 =>
 pureS P (V (Instr.fieldAt 24 x48_37 0)) fun x49_38 =>
 nextS P (U (Instr.storeAt 22 x49_38 x46_35)) (fun _ w => S w ∧ (nextS P (binN .add 3 (Operand.tmp 30) (Operand.const (Value.int IntKind.i64 1)) (e 30) (Value.int IntKind.i64 1)) (fun x50_40 =>
 nx1 [(e 1), (e 3), (e 4), (e 9), (e 28), (e 29), x50_40]) pn) w) pn) w) pn) w) pn) w) pn) w) pn) pn) pn) pn) pn) pn) pn) pn) pn)
 (nextS P (bltN .len #[25] 3 #[false] #[(e 1)]) (fun x52_41 =>
 LoopS [(e 3), (e 4), (e 9), (e 1), x52_41, (Value.int IntKind.i64 0)] [3, 4, 9, 51, 52, 53] fun nx2 e => S11_l2 nx2 ret pn e) pn)) pn
def S11_l8 (nx8 : List Value → C) (ret : Value → C) (pn : Pn) (e : Env) : C :=
 nextS P (binN .lss 3 (Operand.tmp 84) (Operand.tmp 83) (e 84) (e 83)) (fun x85_174 =>
 condS x85_174
 (nextS P (V (Instr.indexAt 22 (e 82) (e 84))) (fun x86_175 =>
 nextS P (V (Instr.loadAt 46 x86_175)) (fun x87_176 =>
 nextS P (V (Instr.alloc 46 true (.tuple #[]))) (fun x18_177 =>
 nextS P (U (Instr.storeAt 46 x18_177 x87_176)) (fun _ =>
 nextS P (V (Instr.fieldAt 46 x18_177 1)) (fun x89_179 =>
 nextS P (V (Instr.loadAt 3 x89_179)) (fun x90_180 =>
 nextS P (V (Instr.buildSlice 63 1 #[(0, x90_180)])) (fun x91_181 =>
 nextS P (bltN .append #[63, 63] 63 #[false, false] #[(e 16), x91_181]) (fun x92_182 =>
 nextS P (binN .add 3 (Operand.tmp 84) (Operand.const (Value.int IntKind.i64 1)) (e 84) (Value.int IntKind.i64 1)) (fun x93_183 =>
 nx8 [(e 9), x92_182, (e 82), (e 83), x93_183]) pn) pn) pn) pn) pn) pn) pn) pn) pn)
 (callS P 21 #[(e 16)] (fun x96_184 =>
 nextS P (nilN (e 9)) (fun x97_185 =>
 nextS P (V (Instr.fieldAt 60 x97_185 4)) (fun x98_186 =>
 nextS P (U (Instr.storeAt 58 x98_186 x96_184)) (fun _ =>
 ret (e 9)) pn) pn) pn) pn)) pn
def S11_l7 (nx7 : List Value → C) (ret : Value → C) (pn : Pn) (e : Env) : C :=
 nextS P (binN .lss 3 (Operand.tmp 71) (Operand.tmp 70) (e 71) (e 70)) (fun x72_163 =>
 condS x72_163
 (nextS P (V (Instr.indexAt 26 (e 69) (e 71))) (fun x73_164 =>
 nextS P (V (Instr.loadAt 2 x73_164)) (fun x74_165 =>
 nextS P (nilN (e 9)) (fun x76_166 =>
 nextS P (V (Instr.fieldAt 60 x76_166 3)) (fun x77_167 =>
 nextS P (V (Instr.loadAt 56 x77_167)) (fun x78_168 =>
 commS P (sendN x78_168 x74_165) fun _ =>
 nextS P (binN .add 3 (Operand.tmp 71) (Operand.const (Value.int IntKind.i64 1)) (e 71) (Value.int IntKind.i64 1)) (fun x80_170 =>
 nx7 [(e 4), (e 9), (e 69), (e 70), x80_170]) pn) pn) pn) pn) pn) pn)
 (nextS P (V (Instr.fieldAt 24 (e 4) 0)) (fun x81_171 =>
 nextS P (V (Instr.loadAt 22 x81_171)) (fun x82_172 =>
 nextS P (bltN .len #[22] 3 #[false] #[x82_172]) (fun x83_173 =>
 LoopS [(e 9), (Value.slice none 0 0), x82_172, x83_173, (Value.int IntKind.i64 0)] [9, 16, 82, 83, 84] fun nx8 e => S11_l8 nx8 ret pn e) pn) pn) pn)) pn
def S11_l6 (nx6 : List Value → C) (ret : Value → C) (pn : Pn) (e : Env) : C :=
 nextS P (binN .lss 3 (Operand.tmp 53) (Operand.tmp 52) (e 53) (e 52)) (fun x54_134 =>
 condS x54_134
 (nextS P (V (Instr.indexAt 25 (e 51) (e 53))) (fun x55_135 =>
 nextS P (V (Instr.loadAt 34 x55_135)) (fun x56_136 =>
 DrawS fun S =>
 pureS P (nilN (e 9)) fun x59_137 =>
 pureS P (V (Instr.fieldAt 60 x59_137 2)) fun x60_138 =>
 fun w => (nextS P (V (Instr.loadAt 25 x60_138)) (fun x61_139 w => S w ∧ (callS P 20 #[x56_136] (fun x63_140 w => S w ∧ (nextS P (V (Instr.buildSlice 25 1 #[(0, x63_140)])) (fun x64_141 w => S w ∧ (nextS P (bltN .append #[25, 25] 25 #[false, false] #[x61_139, x64_141]) (fun x65_142 w => S w ∧ (pureS P (nilN (e 9)) fun x66_143 =>
 pureS P (V (Instr.fieldAt 60 x66_143 2)) fun x67_144 =>
 nextS P (U (Instr.storeAt 25 x67_144 x65_142)) (fun _ w => S w ∧ (nextS P (binN .add 3 (Operand.tmp 53) (Operand.const (Value.int IntKind.i64 1)) (e 53) (Value.int IntKind.i64 1)) (fun x68_146 =>
 nx6 [(e 3), (e 4), (e 9), (e 51), (e 52), x68_146]) pn) w) pn) w) pn) w) pn) w) pn) w) pn) w ∧ (callS P 20 #[x56_136] (fun x63_147 w => S w ∧ (fun w => (nextS P (V (Instr.loadAt 25 x60_138)) (fun x61_148 w => S w ∧ (nextS P (V (Instr.buildSlice 25 1 #[(0, x63_147)])) (fun x64_149 w => S w ∧ (nextS P (bltN .append #[25, 25] 25 #[false, false] #[x61_148, x64_149]) (fun x65_150 w => S w ∧ (pureS P (nilN (e 9)) fun x66_151 =>
 pureS P (V (Instr.fieldAt 60 x66_151 2)) fun x67_152 =>
 nextS P (U (Instr.storeAt 25 x67_152 x65_150)) (fun _ w => S w ∧ (nextS P (binN .add 3 (Operand.tmp 53) (Operand.const (Value.int IntKind.i64 1)) (e 53) (Value.int IntKind.i64 1)) (fun x68_154 =>
 nx6 [(e 3), (e 4), (e 9), (e 51), (e 52), x68_154]) pn) w) pn) w) pn) w) pn) w) pn) w ∧ (nextS P (V (Instr.buildSlice 25 1 #[(0, x63_147)])) (fun x64_155 w => S w ∧ (nextS P (V (Instr.loadAt 25 x60_138)) (fun x61_156 w => S w ∧ (nextS P (bltN .append #[25, 25] 25 #[false, false] #[x61_156, x64_155]) (fun x65_157 w => S w ∧ (pureS P (nilN (e 9)) fun x66_158 =>
 pureS P (V (Instr.fieldAt 60 x66_158 2)) fun x67_159 =>
 nextS P (U (Instr.storeAt 25 x67_159 x65_157)) (fun _ w => S w ∧ (nextS P (binN .add 3 (Operand.tmp 53) (Operand.const (Value.int IntKind.i64 1)) (e 53) (Value.int IntKind.i64 1)) (fun x68_161 =>
 nx6 [(e 3), (e 4), (e 9), (e 51), (e 52), x68_161]) pn) w) pn) w) pn) w) pn) w) pn) w) w) pn) w) pn) pn)
 (nextS P (bltN .len #[26] 3 #[false] #[(e 3)]) (fun x70_162 =>
 LoopS [(e 4), (e 9), (e 3), x70_162, (Value.int IntKind.i64 0)] [4, 9, 69, 70, 71] fun nx7 e => S11_l7 nx7 ret pn e) pn)) pn
def S11_l5 (nx5 : List Value → C) (ret : Value → C) (pn : Pn) (e : Env) : C :=
 nextS P (binN .lss 3 (Operand.tmp 30) (Operand.tmp 29) (e 30) (e 29)) (fun x31_103 =>
 condS x31_103
 (nextS P (V (Instr.indexAt 22 (e 28) (e 30))) (fun x32_104 =>
 nextS P (V (Instr.loadAt 46 x32_104)) (fun x33_105 =>
 nextS P (V (Instr.alloc 46 true (.tuple #[]))) (fun x11_106 =>
 nextS P (U (Instr.storeAt 46 x11_106 x33_105)) (fun _ =>
 nextS P (V (Instr.fieldAt 46 x11_106 4)) (fun x34_108 =>
 nextS P (V (Instr.loadAt 35 x34_108)) (fun x35_109 =>
 callS P 19 #[x35_109] (fun x36_110 =>
 nextS P (V (Instr.fieldAt 46 x11_106 4)) (fun x37_111 =>
 nextS P (U (Instr.storeAt 35 x37_111 x36_110)) (fun _ =>
 DrawS fun S =>
 pureS P (nilN (e 9)) fun x40_113 =>
 pureS P (V (Instr.fieldAt 60 x40_113 1)) fun x41_114 =>
 pureS P (V (Instr.fieldAt 24 x41_114 0)) fun x42_115 =>
 takeS S P (V (Instr.loadAt 46 x11_106)) fun x44_116 =>
 fun w => (nextS P (V (Instr.loadAt 22 x42_115)) (fun x43_117 w => S w ∧ (nextS P (V (Instr.buildSlice 22 1 #[(0, x44_116)])) (fun x45_118 w => S w ∧ (nextS P (bltN .append #[22, 22] 22 #[false, false] #[x43_117, x45_118]) (fun x46_119 w => S w ∧ (pureS P (nilN (e 9)) fun x47_120 =>
 pureS P (V (Instr.fieldAt 60 x47_120 1)) fun x48_121 =>
 pureS P (V (Instr.fieldAt 24 x48_121 0)) fun x49_122 =>
 nextS P (U (Instr.storeAt 22 x49_122 x46_119)) (fun _ w => S w ∧ (nextS P (binN .add 3 (Operand.tmp 30) (Operand.const (Value.int IntKind.i64 1)) (e 30) (Value.int IntKind.i64 1)) (fun x50_124 =>
 nx5 [(e 1), (e 3), (e 4), (e 9), (e 28), (e 29), x50_124]) pn) w) pn) w) pn) w) pn) w) pn) w ∧ (nextS P (V (Instr.buildSlice 22 1 #[(0, x44_116)])) (fun x45_125 w => S w ∧ (nextS P (V (Instr.loadAt 22 x42_115)) (fun x43_126 w => S w ∧ (nextS P (bltN .append #[22, 22] 22 #[false, false] #[x43_126, x45_125]) (fun x46_127 w => S w ∧ (pureS P (nilN (e 9)) fun x47_128 =>
 pureS P (V (Instr.fieldAt 60 x47_128 1)) fun x48_129 =>
 pureS P (V (Instr.fieldAt 24 x48_129 0)) fun x49_130 =>
 nextS P (U (Instr.storeAt 22 x49_130 x46_127)) (fun _ w => S w ∧ (nextS P (binN .add 3 (Operand.tmp 30) (Operand.const (Value.int IntKind.i64 1)) (e 30) (Value.int IntKind.i64 1)) (fun x50_132 =>
 nx5 [(e 1), (e 3), (e 4), (e 9), (e 28), (e 29), x50_132]) pn) w) pn) w) pn) w) pn) w) pn) w) pn) pn) pn) pn) pn) pn) pn) pn) pn)
 (nextS P (bltN .len #[25] 3 #[false] #[(e 1)]) (fun x52_133 =>
 LoopS [(e 3), (e 4), (e 9), (e 1), x52_133, (Value.int IntKind.i64 0)] [3, 4, 9, 51, 52, 53] fun nx6 e => S11_l6 nx6 ret pn e) pn)) pn
def S11_l12 (nx12 : List Value → C) (ret : Value → C) (pn : Pn) (e : Env) : C :=
 nextS P (binN .lss 3 (Operand.tmp 84) (Operand.tmp 83) (e 84) (e 83)) (fun x85_267 =>
 condS x85_267
 (nextS P (V (Instr.indexAt 22 (e 82) (e 84))) (fun x86_268 =>
 nextS P (V (Instr.loadAt 46 x86_268)) (fun x87_269 =>
 nextS P (V (Instr.alloc 46 true (.tuple #[]))) (fun x18_270 =>
 nextS P (U (Instr.storeAt 46 x18_270 x87_269)) (fun _ =>
 nextS P (V (Instr.fieldAt 46 x18_270 1)) (fun x89_272 =>
 nextS P (V (Instr.loadAt 3 x89_272)) (fun x90_273 =>
 nextS P (V (Instr.buildSlice 63 1 #[(0, x90_273)])) (fun x91_274 =>
 nextS P (bltN .append #[63, 63] 63 #[false, false] #[(e 16), x91_274]) (fun x92_275 =>
 nextS P (binN .add 3 (Operand.tmp 84) (Operand.const (Value.int IntKind.i64 1)) (e 84) (Value.int IntKind.i64 1)) (fun x93_276 =>
 nx12 [(e 9), x92_275, (e 82), (e 83), x93_276]) pn) pn) pn) pn) pn) pn) pn) pn) pn)
 (callS P 21 #[(e 16)] (fun x96_277 =>
 nextS P (nilN (e 9)) (fun x97_278 =>
 nextS P (V (Instr.fieldAt 60 x97_278 4)) (fun x98_279 =>
 nextS P (U (Instr.storeAt 58 x98_279 x96_277)) (fun _ =>
 ret (e 9)) pn) pn) pn) pn)) pn
def S11_l11 (nx11 : List Value → C) (ret : Value → C) (pn : Pn) (e : Env) : C :=
 nextS P (binN .lss 3 (Operand.tmp 71) (Operand.tmp 70) (e 71) (e 70)) (fun x72_256 =>
 condS x72_256
 (nextS P (V (Instr.indexAt 26 (e 69) (e 71))) (fun x73_257 =>
 nextS P (V (Instr.loadAt 2 x73_257)) (fun x74_258 =>
 nextS P (nilN (e 9)) (fun x76_259 =>
 nextS P (V (Instr.fieldAt 60 x76_259 3)) (fun x77_260 =>
 nextS P (V (Instr.loadAt 56 x77_260)) (fun x78_261 =>
 commS P (sendN x78_261 x74_258) fun _ =>
 nextS P (binN .add 3 (Operand.tmp 71) (Operand.const (Value.int IntKind.i64 1)) (e 71) (Value.int IntKind.i64 1)) (fun x80_263 =>
 nx11 [(e 4), (e 9), (e 69), (e 70), x80_263]) pn) pn) pn) pn) pn) pn)
 (nextS P (V (Instr.fieldAt 24 (e 4) 0)) (fun x81_264 =>
 nextS P (V (Instr.loadAt 22 x81_264)) (fun x82_265 =>
 nextS P (bltN .len #[22] 3 #[false] #[x82_265]) (fun x83_266 =>
 LoopS [(e 9), (Value.slice none 0 0), x82_265, x83_266, (Value.int IntKind.i64 0)] [9, 16, 82, 83, 84] fun nx12 e => S11_l12 nx12 ret pn e) pn) pn) pn)) pn
def S11_l10 (nx10 : List Value → C) (ret : Value → C) (pn : Pn) (e : Env) : C :=
 nextS P (binN .lss 3 (Operand.tmp 53) (Operand.tmp 52) (e 53) (e 52)) (fun x54_227 =>
 condS x54_227
 (nextS P (V (Instr.indexAt 25 (e 51) (e 53))) (fun x55_228 =>
 nextS P (V (Instr.loadAt 34 x55_228)) (fun x56_229 =>
 DrawS fun S =>
 pureS P (nilN (e 9)) fun x59_230 =>
 pureS P (V (Instr.fieldAt 60 x59_230 2)) fun x60_231 =>
 fun w => (nextS P (V (Instr.loadAt 25 x60_231)) (fun x61_232 w => S w ∧ (callS P 20 #[x56_229] (fun x63_233 w => S w ∧ (nextS P (V (Instr.buildSlice 25 1 #[(0, x63_233)])) (fun x64_234 w => S w ∧ (nextS P (bltN .append #[25, 25] 25 #[false, false] #[x61_232, x64_234]) (fun x65_235 w => S w ∧ (pureS P (nilN (e 9)) fun x66_236 =>
 pureS P (V (Instr.fieldAt 60 x66_236 2)) fun x67_237 =>
 nextS P (U (Instr.storeAt 25 x67_237 x65_235)) (fun _ w => S w ∧ (nextS P (binN .add 3 (Operand.tmp 53) (Operand.const (Value.int IntKind.i64 1)) (e 53) (Value.int IntKind.i64 1)) (fun x68_239 =>
 nx10 [(e 3), (e 4), (e 9), (e 51), (e 52), x68_239]) pn) w) pn) w) pn) w) pn) w) pn) w) pn) w ∧ (callS P 20 #[x56_229] (fun x63_240 w => S w ∧ (fun w => (nextS P (V (Instr.loadAt 25 x60_231)) (fun x61_241 w => S w ∧ (nextS P (V (Instr.buildSlice 25 1 #[(0, x63_240)])) (fun x64_242 w => S w ∧ (nextS P (bltN .append #[25, 25] 25 #[false, false] #[x61_241, x64_242]) (fun x65_243 w => S w ∧ (pureS P (nilN (e 9)) fun x66_244 =>
 pureS P (V (Instr.fieldAt 60 x66_244 2)) fun x67_245 =>
 nextS P (U (Instr.storeAt 25 x67_245 x65_243)) (fun _ w => S w ∧ (nextS P (binN .add 3 (Operand.tmp 53) (Operand.const (Value.int IntKind.i64 1)) (e 53) (Value.int IntKind.i64 1)) (fun x68_247 =>
 nx10 [(e 3), (e 4), (e 9), (e 51), (e 52), x68_247]) pn) w) pn) w) pn) w) pn) w) pn) w ∧ (nextS P (V (Instr.buildSlice 25 1 #[(0, x63_240)])) (fun x64_248 w => S w ∧ (nextS P (V (Instr.loadAt 25 x60_231)) (fun x61_249 w => S w ∧ (nextS P (bltN .append #[25, 25] 25 #[false, false] #[x61_249, x64_248]) (fun x65_250 w => S w ∧ (pureS P (nilN (e 9)) fun x66_251 =>
 pureS P (V (Instr.fieldAt 60 x66_251 2)) fun x67_252 =>
 nextS P (U (Instr.storeAt 25 x67_252 x65_250)) (fun _ w => S w ∧ (nextS P (binN .add 3 (Operand.tmp 53) (Operand.const (Value.int IntKind.i64 1)) (e 53) (Value.int IntKind.i64 1)) (fun x68_254 =>
 nx10 [(e 3), (e 4), (e 9), (e 51), (e 52), x68_254]) pn) w) pn) w) pn) w) pn) w) pn) w) w) pn) w) pn) pn)
 (nextS P (bltN .len #[26] 3 #[false] #[(e 3)]) (fun x70_255 =>
 LoopS [(e 4), (e 9), (e 3), x70_255, (Value.int IntKind.i64 0)] [4, 9, 69, 70, 71] fun nx11 e => S11_l11 nx11 ret pn e) pn)) pn
def S11_l9 (nx9 : List Value → C) (ret : Value → C) (pn : Pn) (e : Env) : C :=
 nextS P (binN .lss 3 (Operand.tmp 30) (Operand.tmp 29) (e 30) (e 29)) (fun x31_196 =>
 condS x31_196
 (nextS P (V (Instr.indexAt 22 (e 28) (e 30))) (fun x32_197 =>
 nextS P (V (Instr.loadAt 46 x32_197)) (fun x33_198 =>
 nextS P (V (Instr.alloc 46 true (.tuple #[]))) (fun x11_199 =>
 nextS P (U (Instr.storeAt 46 x11_199 x33_198)) (fun _ =>
 nextS P (V (Instr.fieldAt 46 x11_199 4)) (fun x34_201 =>
 nextS P (V (Instr.loadAt 35 x34_201)) (fun x35_202 =>
 callS P 19 #[x35_202] (fun x36_203 =>
 nextS P (V (Instr.fieldAt 46 x11_199 4)) (fun x37_204 =>
 nextS P (U (Instr.storeAt 35 x37_204 x36_203)) (fun _ =>
 DrawS fun S =>
 pureS P (nilN (e 9)) fun x40_206 =>
 pureS P (V (Instr.fieldAt 60 x40_206 1)) fun x41_207 =>
 pureS P (V (Instr.fieldAt 24 x41_207 0)) fun x42_208 =>
 takeS S P (V (Instr.loadAt 46 x11_199)) fun x44_209 =>
 fun w => (nextS P (V (Instr.loadAt 22 x42_208)) (fun x43_210 w => S w ∧ (nextS P (V (Instr.buildSlice 22 1 #[(0, x44_209)])) (fun x45_211 w => S w ∧ (nextS P (bltN .append #[22, 22] 22 #[false, false] #[x43_210, x45_211]) (fun x46_212 w => S w ∧ (pureS P (nilN (e 9)) fun x47_213 =>
 pureS P (V (Instr.fieldAt 60 x47_213 1)) fun x48_214 =>
 pureS P (V (Instr.fieldAt 24 x48_214 0)) fun x49_215 =>
 nextS P (U (Instr.storeAt 22 x49_215 x46_212)) (fun _ w => S w ∧ (nextS P (binN .add 3 (Operand.tmp 30) (Operand.const (Value.int IntKind.i64 1)) (e 30) (Value.int IntKind.i64 1)) (fun x50_217 =>
 nx9 [(e 1), (e 3), (e 4), (e 9), (e 28), (e 29), x50_217]) pn) w) pn) w) pn) w) pn) w) pn) w ∧ (nextS P (V (Instr.buildSlice 22 1 #[(0, x44_209)])) (fun x45_218 w => S w ∧ (nextS P (V (Instr.loadAt 22 x42_208)) (fun x43_219 w => S w ∧ (nextS P (bltN .append #[22, 22] 22 #[false, false] #[x43_219, x45_218]) (fun x46_220 w => S w ∧ (pureS P (nilN (e 9)) fun x47_221 =>
 pureS P (V (Instr.fieldAt 60 x47_221 1)) fun x48_222 =>
 pureS P (V (Instr.fieldAt 24 x48_222 0)) fun x49_223 =>
 nextS P (U (Instr.storeAt 22 x49_223 x46_220)) (fun _ w => S w ∧ (nextS P (binN .add 3 (Operand.tmp 30) (Operand.const (Value.int IntKind.i64 1)) (e 30) (Value.int IntKind.i64 1)) (fun x50_225 =>
 nx9 [(e 1), (e 3), (e 4), (e 9), (e 28), (e 29), x50_225]) pn) w) pn) w) pn) w) pn) w) pn) w) pn) pn) pn) pn) pn) pn) pn) pn) pn)
 (nextS P (bltN .len #[25] 3 #[false] #[(e 1)]) (fun x52_226 =>
 LoopS [(e 3), (e 4), (e 9), (e 1), x52_226, (Value.int IntKind.i64 0)] [3, 4, 9, 51, 52, 53] fun nx10 e => S11_l10 nx10 ret pn e) pn)) pn
def S11_l16 (nx16 : List Value → C) (ret : Value → C) (pn : Pn) (e : Env) : C :=
 nextS P (binN .lss 3 (Operand.tmp 84) (Operand.tmp 83) (e 84) (e 83)) (fun x85_359 =>
 condS x85_359
 (nextS P (V (Instr.indexAt 22 (e 82) (e 84))) (fun x86_360 =>
 nextS P (V (Instr.loadAt 46 x86_360)) (fun x87_361 =>
 nextS P (V (Instr.alloc 46 true (.tuple #[]))) (fun x18_362 =>
 nextS P (U (Instr.storeAt 46 x18_362 x87_361)) (fun _ =>
 nextS P (V (Instr.fieldAt 46 x18_362 1)) (fun x89_364 =>
 nextS P (V (Instr.loadAt 3 x89_364)) (fun x90_365 =>
 nextS P (V (Instr.buildSlice 63 1 #[(0, x90_365)])) (fun x91_366 =>
 nextS P (bltN .append #[63, 63] 63 #[false, false] #[(e 16), x91_366]) (fun x92_367 =>
 nextS P (binN .add 3 (Operand.tmp 84) (Operand.const (Value.int IntKind.i64 1)) (e 84) (Value.int IntKind.i64 1)) (fun x93_368 =>
 nx16 [(e 9), x92_367, (e 82), (e 83), x93_368]) pn) pn) pn) pn) pn) pn) pn) pn) pn)
 (callS P 21 #[(e 16)] (fun x96_369 =>
 nextS P (nilN (e 9)) (fun x97_370 =>
 nextS P (V (Instr.fieldAt 60 x97_370 4)) (fun x98_371 =>
 nextS P (U (Instr.storeAt 58 x98_371 x96_369)) (fun _ =>
 ret (e 9)) pn) pn) pn) pn)) pn
def S11_l15 (nx15 : List Value → C) (ret : Value → C) (pn : Pn) (e : Env) : C :=
 nextS P (binN .lss 3 (Operand.tmp 71) (Operand.tmp 70) (e 71) (e 70)) (fun x72_348 =>
 condS x72_348
 (nextS P (V (Instr.indexAt 26 (e 69) (e 71))) (fun x73_349 =>
 nextS P (V (Instr.loadAt 2 x73_349)) (fun x74_350 =>
 nextS P (nilN (e 9)) (fun x76_351 =>
 nextS P (V (Instr.fieldAt 60 x76_351 3)) (fun x77_352 =>
 nextS P (V (Instr.loadAt 56 x77_352)) (fun x78_353 =>
 commS P (sendN x78_353 x74_350) fun _ =>
 nextS P (binN .add 3 (Operand.tmp 71) (Operand.const (Value.int IntKind.i64 1)) (e 71) (Value.int IntKind.i64 1)) (fun x80_355 =>
 nx15 [(e 4), (e 9), (e 69), (e 70), x80_355]) pn) pn) pn) pn) pn) pn)
 (nextS P (V (Instr.fieldAt 24 (e 4) 0)) (fun x81_356 =>
 nextS P (V (Instr.loadAt 22 x81_356)) (fun x82_357 =>
 nextS P (bltN .len #[22] 3 #[false] #[x82_357]) (fun x83_358 =>
 LoopS [(e 9), (Value.slice none 0 0), x82_357, x83_358, (Value.int IntKind.i64 0)] [9, 16, 82, 83, 84] fun nx16 e => S11_l16 nx16 ret pn e) pn) pn) pn)) pn
def S11_l14 (nx14 : List Value → C) (ret : Value → C) (pn : Pn) (e : Env) : C :=
 nextS P (binN .lss 3 (Operand.tmp 53) (Operand.tmp 52) (e 53) (e 52)) (fun x54_319 =>
 condS x54_319
 (nextS P (V (Instr.indexAt 25 (e 51) (e 53))) (fun x55_320 =>
 nextS P (V (Instr.loadAt 34 x55_320)) (fun x56_321 =>
 DrawS fun S =>
 pureS P (nilN (e 9)) fun x59_322 =>
 pureS P (V (Instr.fieldAt 60 x59_322 2)) fun x60_323 =>
 fun w => (nextS P (V (Instr.loadAt 25 x60_323)) (fun x61_324 w => S w ∧ (callS P 20 #[x56_321] (fun x63_325 w => S w ∧ (nextS P (V (Instr.buildSlice 25 1 #[(0, x63_325)])) (fun x64_326 w => S w ∧ (nextS P (bltN .append #[25, 25] 25 #[false, false] #[x61_324, x64_326]) (fun x65_327 w => S w ∧ (pureS P (nilN (e 9)) fun x66_328 =>
 pureS P (V (Instr.fieldAt 60 x66_328 2)) fun x67_329 =>
 nextS P (U (Instr.storeAt 25 x67_329 x65_327)) (fun _ w => S w ∧ (nextS P (binN .add 3 (Operand.tmp 53) (Operand.const (Value.int IntKind.i64 1)) (e 53) (Value.int IntKind.i64 1)) (fun x68_331 =>
 nx14 [(e 3), (e 4), (e 9), (e 51), (e 52), x68_331]) pn) w) pn) w) pn) w) pn) w) pn) w) pn) w ∧ (callS P 20 #[x56_321] (fun x63_332 w => S w ∧ (fun w => (nextS P (V (Instr.loadAt 25 x60_323)) (fun x61_333 w => S w ∧ (nextS P (V (Instr.buildSlice 25 1 #[(0, x63_332)])) (fun x64_334 w => S w ∧ (nextS P (bltN .append #[25, 25] 25 #[false, false] #[x61_333, x64_334]) (fun x65_335 w => S w ∧ (pureS P (nilN (e 9)) fun x66_336 =>
 pureS P (V (Instr.fieldAt 60 x66_336 2)) fun x67_337 =>
 nextS P (U (Instr.storeAt 25 x67_337 x65_335)) (fun _ w => S w ∧ (nextS P (binN .add 3 (Operand.tmp 53) (Operand.const (Value.int IntKind.i64 1)) (e 53) (Value.int IntKind.i64 1)) (fun x68_339 =>
 nx14 [(e 3), (e 4), (e 9), (e 51), (e 52), x68_339]) pn) w) pn) w) pn) w) pn) w) pn) w ∧ (nextS P (V (Instr.buildSlice 25 1 #[(0, x63_332)])) (fun x64_340 w => S w ∧ (nextS P (V (Instr.loadAt 25 x60_323)) (fun x61_341 w => S w ∧ (nextS P (bltN .append #[25, 25] 25 #[false, false] #[x61_341, x64_340]) (fun x65_342 w => S w ∧ (pureS P (nilN (e 9)) fun x66_343 =>
 pureS P (V (Instr.fieldAt 60 x66_343 2)) fun x67_344 =>
 nextS P (U (Instr.storeAt 25 x67_344 x65_342)) (fun _ w => S w ∧ (nextS P (binN .add 3 (Operand.tmp 53) (Operand.const (Value.int IntKind.i64 1)) (e 53) (Value.int IntKind.i64 1)) (fun x68_346 =>
 nx14 [(e 3), (e 4), (e 9), (e 51), (e 52), x68_346]) pn) w) pn) w) pn) w) pn) w) pn) w) w) pn) w) pn) pn)
 (nextS P (bltN .len #[26] 3 #[false] #[(e 3)]) (fun x70_347 =>
 LoopS [(e 4), (e 9), (e 3), x70_347, (Value.int IntKind.i64 0)] [4, 9, 69, 70, 71] fun nx15 e => S11_l15 nx15 ret pn e) pn)) pn
def S11_l13 (nx13 : List Value → C) (ret : Value → C) (pn : Pn) (e : Env) : C :=
 nextS P (binN .lss 3 (Operand.tmp 30) (Operand.tmp 29) (e 30) (e 29)) (fun x31_288 =>
 condS x31_288
 (nextS P (V (Instr.indexAt 22 (e 28) (e 30))) (fun x32_289 =>
 nextS P (V (Instr.loadAt 46 x32_289)) (fun x33_290 =>
 nextS P (V (Instr.alloc 46 true (.tuple #[]))) (fun x11_291 =>
 nextS P (U (Instr.storeAt 46 x11_291 x33_290)) (fun _ =>
 nextS P (V (Instr.fieldAt 46 x11_291 4)) (fun x34_293 =>
 nextS P (V (Instr.loadAt 35 x34_293)) (fun x35_294 =>
 callS P 19 #[x35_294] (fun x36_295 =>
 nextS P (V (Instr.fieldAt 46 x11_291 4)) (fun x37_296 =>
 nextS P (U (Instr.storeAt 35 x37_296 x36_295)) (fun _ =>
 DrawS fun S =>
 pureS P (nilN (e 9)) fun x40_298 =>
 pureS P (V (Instr.fieldAt 60 x40_298 1)) fun x41_299 =>
 pureS P (V (Instr.fieldAt 24 x41_299 0)) fun x42_300 =>
 takeS S P (V (Instr.loadAt 46 x11_291)) fun x44_301 =>
 fun w => (nextS P (V (Instr.loadAt 22 x42_300)) (fun x43_302 w => S w ∧ (nextS P (V (Instr.buildSlice 22 1 #[(0, x44_301)])) (fun x45_303 w => S w ∧ (nextS P (bltN .append #[22, 22] 22 #[false, false] #[x43_302, x45_303]) (fun x46_304 w => S w ∧ (pureS P (nilN (e 9)) fun x47_305 =>
 pureS P (V (Instr.fieldAt 60 x47_305 1)) fun x48_306 =>
 pureS P (V (Instr.fieldAt 24 x48_306 0)) fun x49_307 =>
 nextS P (U (Instr.storeAt 22 x49_307 x46_304)) (fun _ w => S w ∧ (nextS P (binN .add 3 (Operand.tmp 30) (Operand.const (Value.int IntKind.i64 1)) (e 30) (Value.int IntKind.i64 1)) (fun x50_309 =>
 nx13 [(e 1), (e 3), (e 4), (e 9), (e 28), (e 29), x50_309]) pn) w) pn) w) pn) w) pn) w) pn) w ∧ (nextS P (V (Instr.buildSlice 22 1 #[(0, x44_301)])) (fun x45_310 w => S w ∧ (nextS P (V (Instr.loadAt 22 x42_300)) (fun x43_311 w => S w ∧ (nextS P (bltN .append #[22, 22] 22 #[false, false] #[x43_311, x45_310]) (fun x46_312 w => S w ∧ (pureS P (nilN (e 9)) fun x47_313 =>
 pureS P (V (Instr.fieldAt 60 x47_313 1)) fun x48_314 =>
 pureS P (V (Instr.fieldAt 24 x48_314 0)) fun x49_315 =>
 nextS P (U (Instr.storeAt 22 x49_315 x46_312)) (fun _ w => S w ∧ (nextS P (binN .add 3 (Operand.tmp 30) (Operand.const (Value.int IntKind.i64 1)) (e 30) (Value.int IntKind.i64 1)) (fun x50_317 =>
 nx13 [(e 1), (e 3), (e 4), (e 9), (e 28), (e 29), x50_317]) pn) w) pn) w) pn) w) pn) w) pn) w) pn) pn) pn) pn) pn) pn) pn) pn) pn)
 (nextS P (bltN .len #[25] 3 #[false] #[(e 1)]) (fun x52_318 =>
 LoopS [(e 3), (e 4), (e 9), (e 1), x52_318, (Value.int IntKind.i64 0)] [3, 4, 9, 51, 52, 53] fun nx14 e => S11_l14 nx14 ret pn e) pn)) pn
def S11_l20 (nx20 : List Value → C) (ret : Value → C) (pn : Pn) (e : Env) : C :=
 nextS P (binN .lss 3 (Operand.tmp 84) (Operand.tmp 83) (e 84) (e 83)) (fun x85_452 =>
 condS x85_452
 (nextS P (V (Instr.indexAt 22 (e 82) (e 84))) (fun x86_453 =>
 nextS P (V (Instr.loadAt 46 x86_453)) (fun x87_454 =>
 nextS P (V (Instr.alloc 46 true (.tuple #[]))) (fun x18_455 =>
 nextS P (U (Instr.storeAt 46 x18_455 x87_454)) (fun _ =>
 nextS P (V (Instr.fieldAt 46 x18_455 1)) (fun x89_457 =>
 nextS P (V (Instr.loadAt 3 x89_457)) (fun x90_458 =>
 nextS P (V (Instr.buildSlice 63 1 #[(0, x90_458)])) (fun x91_459 =>
 nextS P (bltN .append #[63, 63] 63 #[false, false] #[(e 16), x91_459]) (fun x92_460 =>
 nextS P (binN .add 3 (Operand.tmp 84) (Operand.const (Value.int IntKind.i64 1)) (e 84) (Value.int IntKind.i64 1)) (fun x93_461 =>
 nx20 [(e 9), x92_460, (e 82), (e 83), x93_461]) pn) pn) pn) pn) pn) pn) pn) pn) pn)
 (callS P 21 #[(e 16)] (fun x96_462 =>
 nextS P (nilN (e 9)) (fun x97_463 =>
 nextS P (V (Instr.fieldAt 60 x97_463 4)) (fun x98_464 =>
 nextS P (U (Instr.storeAt 58 x98_464 x96_462)) (fun _ =>
 ret (e 9)) pn) pn) pn) pn)) pn
def S11_l19 (nx19 : List Value → C) (ret : Value → C) (pn : Pn) (e : Env) : C :=
 nextS P (binN .lss 3 (Operand.tmp 71) (Operand.tmp 70) (e 71) (e 70)) (fun x72_441 =>
 condS x72_441
 (nextS P (V (Instr.indexAt 26 (e 69) (e 71))) (fun x73_442 =>
 nextS P (V (Instr.loadAt 2 x73_442)) (fun x74_443 =>
 nextS P (nilN (e 9)) (fun x76_444 =>
 nextS P (V (Instr.fieldAt 60 x76_444 3)) (fun x77_445 =>
 nextS P (V (Instr.loadAt 56 x77_445)) (fun x78_446 =>
 commS P (sendN x78_446 x74_443) fun _ =>
 nextS P (binN .add 3 (Operand.tmp 71) (Operand.const (Value.int IntKind.i64 1)) (e 71) (Value.int IntKind.i64 1)) (fun x80_448 =>
 nx19 [(e 4), (e 9), (e 69), (e 70), x80_448]) pn) pn) pn) pn) pn) pn)
 (nextS P (V (Instr.fieldAt 24 (e 4) 0)) (fun x81_449 =>
 nextS P (V (Instr.loadAt 22 x81_449)) (fun x82_450 =>
 nextS P (bltN .len #[22] 3 #[false] #[x82_450]) (fun x83_451 =>
 LoopS [(e 9), (Value.slice none 0 0), x82_450, x83_451, (Value.int IntKind.i64 0)] [9, 16, 82, 83, 84] fun nx20 e => S11_l20 nx20 ret pn e) pn) pn) pn)) pn
def S11_l18 (nx18 : List Value → C) (ret : Value → C) (pn : Pn) (e : Env) : C :=
 nextS P (binN .lss 3 (Operand.tmp 53) (Operand.tmp 52) (e 53) (e 52)) (fun x54_412 =>
 condS x54_412
 (nextS P (V (Instr.indexAt 25 (e 51) (e 53))) (fun x55_413 =>
 nextS P (V (Instr.loadAt 34 x55_413)) (fun x56_414 =>
 DrawS fun S =>
 pureS P (nilN (e 9)) fun x59_415 =>
 pureS P (V (Instr.fieldAt 60 x59_415 2)) fun x60_416 =>
 fun w => (nextS P (V (Instr.loadAt 25 x60_416)) (fun x61_417 w => S w ∧ (callS P 20 #[x56_414] (fun x63_418 w => S w ∧ (nextS P (V (Instr.buildSlice 25 1 #[(0, x63_418)])) (fun x64_419 w => S w ∧ (nextS P (bltN .append #[25, 25] 25 #[false, false] #[x61_417, x64_419]) (fun x65_420 w => S w ∧ (pureS P (nilN (e 9)) fun x66_421 =>
 pureS P (V (Instr.fieldAt 60 x66_421 2)) fun x67_422 =>
 nextS P (U (Instr.storeAt 25 x67_422 x65_420)) (fun _ w => S w ∧ (nextS P (binN .add 3 (Operand.tmp 53) (Operand.const (Value.int IntKind.i64 1)) (e 53) (Value.int IntKind.i64 1)) (fun x68_424 =>
 nx18 [(e 3), (e 4), (e 9), (e 51), (e 52), x68_424]) pn) w) pn) w) pn) w) pn) w) pn) w) pn) w ∧ (callS P 20 #[x56_414] (fun x63_425 w => S w ∧ (fun w => (nextS P (V (Instr.loadAt 25 x60_416)) (fun x61_426 w => S w ∧ (nextS P (V (Instr.buildSlice 25 1 #[(0, x63_425)])) (fun x64_427 w => S w ∧ (nextS P (bltN .append #[25, 25] 25 #[false, false] #[x61_426, x64_427]) (fun x65_428 w => S w ∧ (pureS P (nilN (e 9)) fun x66_429 =>
 pureS P (V (Instr.fieldAt 60 x66_429 2)) fun x67_430 =>
 nextS P (U (Instr.storeAt 25 x67_430 x65_428)) (fun _ w => S w ∧ (nextS P (binN .add 3 (Operand.tmp 53) (Operand.const (Value.int IntKind.i64 1)) (e 53) (Value.int IntKind.i64 1)) (fun x68_432 =>
 nx18 [(e 3), (e 4), (e 9), (e 51), (e 52), x68_432]) pn) w) pn) w) pn) w) pn) w) pn) w ∧ (nextS P (V (Instr.buildSlice 25 1 #[(0, x63_425)])) (fun x64_433 w => S w ∧ (nextS P (V (Instr.loadAt 25 x60_416)) (fun x61_434 w => S w ∧ (nextS P (bltN .append #[25, 25] 25 #[false, false] #[x61_434, x64_433]) (fun x65_435 w => S w ∧ (pureS P (nilN (e 9)) fun x66_436 =>
 pureS P (V (Instr.fieldAt 60 x66_436 2)) fun x67_437 =>
 nextS P (U (Instr.storeAt 25 x67_437 x65_435)) (fun _ w => S w ∧ (nextS P (binN .add 3 (Operand.tmp 53) (Operand.const (Value.int IntKind.i64 1)) (e 53) (Value.int IntKind.i64 1)) (fun x68_439 =>
 nx18 [(e 3), (e 4), (e 9), (e 51), (e 52), x68_439]) pn) w) pn) w) pn) w) pn) w) pn) w) w) pn) w) pn) pn)
 (nextS P (bltN .len #[26] 3 #[false] #[(e 3)]) (fun x70_440 =>
 LoopS [(e 4), (e 9), (e 3), x70_440, (Value.int IntKind.i64 0)] [4, 9, 69, 70, 71] fun nx19 e => S11_l19 nx19 ret pn e) pn)) pn
def S11_l17 (nx17 : List Value → C) (ret : Value → C) (pn : Pn) (e : Env) : C :=
 nextS P (binN .lss 3 (Operand.tmp 30) (Operand.tmp 29) (e 30) (e 29)) (fun x31_381 =>
 condS x31_381
 (nextS P (V (Instr.indexAt 22 (e 28) (e 30))) (fun x32_382 =>
 nextS P (V (Instr.loadAt 46 x32_382)) (fun x33_383 =>
 nextS P (V (Instr.alloc 46 true (.tuple #[]))) (fun x11_384 =>
 nextS P (U (Instr.storeAt 46 x11_384 x33_383)) (fun _ =>
 nextS P (V (Instr.fieldAt 46 x11_384 4)) (fun x34_386 =>
 nextS P (V (Instr.loadAt 35 x34_386)) (fun x35_387 =>
 callS P 19 #[x35_387] (fun x36_388 =>
 nextS P (V (Instr.fieldAt 46 x11_384 4)) (fun x37_389 =>
 nextS P (U (Instr.storeAt 35 x37_389 x36_388)) (fun _ =>
 DrawS fun S =>
 pureS P (nilN (e 9)) fun x40_391 =>
 pureS P (V (Instr.fieldAt 60 x40_391 1)) fun x41_392 =>
 pureS P (V (Instr.fieldAt 24 x41_392 0)) fun x42_393 =>
 takeS S P (V (Instr.loadAt 46 x11_384)) fun x44_394 =>
 fun w => (nextS P (V (Instr.loadAt 22 x42_393)) (fun x43_395 w => S w ∧ (nextS P (V (Instr.buildSlice 22 1 #[(0, x44_394)])) (fun x45_396 w => S w ∧ (nextS P (bltN .append #[22, 22] 22 #[false, false] #[x43_395, x45_396]) (fun x46_397 w => S w ∧ (pureS P (nilN (e 9)) fun x47_398 =>
 pureS P (V (Instr.fieldAt 60 x47_398 1)) fun x48_399 =>
 pureS P (V (Instr.fieldAt 24 x48_399 0)) fun x49_400 =>
 nextS P (U (Instr.storeAt 22 x49_400 x46_397)) (fun _ w => S w ∧ (nextS P (binN .add 3 (Operand.tmp 30) (Operand.const (Value.int IntKind.i64 1)) (e 30) (Value.int IntKind.i64 1)) (fun x50_402 =>
 nx17 [(e 1), (e 3), (e 4), (e 9), (e 28), (e 29), x50_402]) pn) w) pn) w) pn) w) pn) w) pn) w ∧ (nextS P (V (Instr.buildSlice 22 1 #[(0, x44_394)])) (fun x45_403 w => S w ∧ (nextS P (V (Instr.loadAt 22 x42_393)) (fun x43_404 w => S w ∧ (nextS P (bltN .append #[22, 22] 22 #[false, false] #[x43_404, x45_403]) (fun x46_405 w => S w ∧ (pureS P (nilN (e 9)) fun x47_406 =>
 pureS P (V (Instr.fieldAt 60 x47_406 1)) fun x48_407 =>
 pureS P (V (Instr.fieldAt 24 x48_407 0)) fun x49_408 =>
 nextS P (U (Instr.storeAt 22 x49_408 x46_405)) (fun _ w => S w ∧ (nextS P (binN .add 3 (Operand.tmp 30) (Operand.const (Value.int IntKind.i64 1)) (e 30) (Value.int IntKind.i64 1)) (fun x50_410 =>
 nx17 [(e 1), (e 3), (e 4), (e 9), (e 28), (e 29), x50_410]) pn) w) pn) w) pn) w) pn) w) pn) w) pn) pn) pn) pn) pn) pn) pn) pn) pn)
 (nextS P (bltN .len #[25] 3 #[false] #[(e 1)]) (fun x52_411 =>
 LoopS [(e 3), (e 4), (e 9), (e 1), x52_411, (Value.int IntKind.i64 0)] [3, 4, 9, 51, 52, 53] fun nx18 e => S11_l18 nx18 ret pn e) pn)) pn
def S11_l24 (nx24 : List Value → C) (ret : Value → C) (pn : Pn) (e : Env) : C :=
 nextS P (binN .lss 3 (Operand.tmp 84) (Operand.tmp 83) (e 84) (e 83)) (fun x85_544 =>
 condS x85_544
 (nextS P (V (Instr.indexAt 22 (e 82) (e 84))) (fun x86_545 =>
 nextS P (V (Instr.loadAt 46 x86_545)) (fun x87_546 =>
 nextS P (V (Instr.alloc 46 true (.tuple #[]))) (fun x18_547 =>
 nextS P (U (Instr.storeAt 46 x18_547 x87_546)) (fun _ =>
 nextS P (V (Instr.fieldAt 46 x18_547 1)) (fun x89_549 =>
 nextS P (V (Instr.loadAt 3 x89_549)) (fun x90_550 =>
 nextS P (V (Instr.buildSlice 63 1 #[(0, x90_550)])) (fun x91_551 =>
 nextS P (bltN .append #[63, 63] 63 #[false, false] #[(e 16), x91_551]) (fun x92_552 =>
 nextS P (binN .add 3 (Operand.tmp 84) (Operand.const (Value.int IntKind.i64 1)) (e 84) (Value.int IntKind.i64 1)) (fun x93_553 =>
 nx24 [(e 9), x92_552, (e 82), (e 83), x93_553]) pn) pn) pn) pn) pn) pn) pn) pn) pn)
 (callS P 21 #[(e 16)] (fun x96_554 =>
 nextS P (nilN (e 9)) (fun x97_555 =>
 nextS P (V (Instr.fieldAt 60 x97_555 4)) (fun x98_556 =>
 nextS P (U (Instr.storeAt 58 x98_556 x96_554)) (fun _ =>
 ret (e 9)) pn) pn) pn) pn)) pn
def S11_l23 (nx23 : List Value → C) (ret : Value → C) (pn : Pn) (e : Env) : C :=
 nextS P (binN .lss 3 (Operand.tmp 71) (Operand.tmp 70) (e 71) (e 70)) (fun x72_533 =>
 condS x72_533
 (nextS P (V (Instr.indexAt 26 (e 69) (e 71))) (fun x73_534 =>
 nextS P (V (Instr.loadAt 2 x73_534)) (fun x74_535 =>
 nextS P (nilN (e 9)) (fun x76_536 =>
 nextS P (V (Instr.fieldAt 60 x76_536 3)) (fun x77_537 =>
 nextS P (V (Instr.loadAt 56 x77_537)) (fun x78_538 =>
 commS P (sendN x78_538 x74_535) fun _ =>
 nextS P (binN .add 3 (Operand.tmp 71) (Operand.const (Value.int IntKind.i64 1)) (e 71) (Value.int IntKind.i64 1)) (fun x80_540 =>
 nx23 [(e 4), (e 9), (e 69), (e 70), x80_540]) pn) pn) pn) pn) pn) pn)
 (nextS P (V (Instr.fieldAt 24 (e 4) 0)) (fun x81_541 =>
 nextS P (V (Instr.loadAt 22 x81_541)) (fun x82_542 =>
 nextS P (bltN .len #[22] 3 #[false] #[x82_542]) (fun x83_543 =>
 LoopS [(e 9), (Value.slice none 0 0), x82_542, x83_543, (Value.int IntKind.i64 0)] [9, 16, 82, 83, 84] fun nx24 e => S11_l24 nx24 ret pn e) pn) pn) pn)) pn
def S11_l22 (nx22 : List Value → C) (ret : Value → C) (pn : Pn) (e : Env) : C :=
 nextS P (binN .lss 3 (Operand.tmp 53) (Operand.tmp 52) (e 53) (e 52)) (fun x54_504 =>
 condS x54_504
 (nextS P (V (Instr.indexAt 25 (e 51) (e 53))) (fun x55_505 =>
 nextS P (V (Instr.loadAt 34 x55_505)) (fun x56_506 =>
 DrawS fun S =>
 pureS P (nilN (e 9)) fun x59_507 =>
 pureS P (V (Instr.fieldAt 60 x59_507 2)) fun x60_508 =>
 fun w => (nextS P (V (Instr.loadAt 25 x60_508)) (fun x61_509 w => S w ∧ (callS P 20 #[x56_506] (fun x63_510 w => S w ∧ (nextS P (V (Instr.buildSlice 25 1 #[(0, x63_510)])) (fun x64_511 w => S w ∧ (nextS P (bltN .append #[25, 25] 25 #[false, false] #[x61_509, x64_511]) (fun x65_512 w => S w ∧ (pureS P (nilN (e 9)) fun x66_513 =>
 pureS P (V (Instr.fieldAt 60 x66_513 2)) fun x67_514 =>
 nextS P (U (Instr.storeAt 25 x67_514 x65_512)) (fun _ w => S w ∧ (nextS P (binN .add 3 (Operand.tmp 53) (Operand.const (Value.int IntKind.i64 1)) (e 53) (Value.int IntKind.i64 1)) (fun x68_516 =>
 nx22 [(e 3), (e 4), (e 9), (e 51), (e 52), x68_516]) pn) w) pn) w) pn) w) pn) w) pn) w) pn) w ∧ (callS P 20 #[x56_506] (fun x63_517 w => S w ∧ (fun w => (nextS P (V (Instr.loadAt 25 x60_508)) (fun x61_518 w => S w ∧ (nextS P (V (Instr.buildSlice 25 1 #[(0, x63_517)])) (fun x64_519 w => S w ∧ (nextS P (bltN .append #[25, 25] 25 #[false, false] #[x61_518, x64_519]) (fun x65_520 w => S w ∧ (pureS P (nilN (e 9)) fun x66_521 =>
 pureS P (V (Instr.fieldAt 60 x66_521 2)) fun x67_522 =>
 nextS P (U (Instr.storeAt 25 x67_522 x65_520)) (fun _ w => S w ∧ (nextS P (binN .add 3 (Operand.tmp 53) (Operand.const (Value.int IntKind.i64 1)) (e 53) (Value.int IntKind.i64 1)) (fun x68_524 =>
 nx22 [(e 3), (e 4), (e 9), (e 51), (e 52), x68_524]) pn) w) pn) w) pn) w) pn) w) pn) w ∧ (nextS P (V (Instr.buildSlice 25 1 #[(0, x63_517)])) (fun x64_525 w => S w ∧ (nextS P (V (Instr.loadAt 25 x60_508)) (fun x61_526 w => S w ∧ (nextS P (bltN .append #[25, 25] 25 #[false, false] #[x61_526, x64_525]) (fun x65_527 w => S w ∧ (pureS P (nilN (e 9)) fun x66_528 =>
 pureS P (V (Instr.fieldAt 60 x66_528 2)) fun x67_529 =>
 nextS P (U (Instr.storeAt 25 x67_529 x65_527)) (fun _ w => S w ∧ (nextS P (binN .add 3 (Operand.tmp 53) (Operand.const (Value.int IntKind.i64 1)) (e 53) (Value.int IntKind.i64 1)) (fun x68_531 =>
 nx22 [(e 3), (e 4), (e 9), (e 51), (e 52), x68_531]) pn) w) pn) w) pn) w) pn) w) pn) w) w) pn) w) pn) pn)
 (nextS P (bltN .len #[26] 3 #[false] #[(e 3)]) (fun x70_532 =>
 LoopS [(e 4), (e 9), (e 3), x70_532, (Value.int IntKind.i64 0)] [4, 9, 69, 70, 71] fun nx23 e => S11_l23 nx23 ret pn e) pn)) pn
def S11_l21 (nx21 : List Value → C) (ret : Value → C) (pn : Pn) (e : Env) : C :=
 nextS P (binN .lss 3 (Operand.tmp 30) (Operand.tmp 29) (e 30) (e 29)) (fun x31_473 =>
 condS x31_473
 (nextS P (V (Instr.indexAt 22 (e 28) (e 30))) (fun x32_474 =>
 nextS P (V (Instr.loadAt 46 x32_474)) (fun x33_475 =>
 nextS P (V (Instr.alloc 46 true (.tuple #[]))) (fun x11_476 =>
 nextS P (U (Instr.storeAt 46 x11_476 x33_475)) (fun _ =>
 nextS P (V (Instr.fieldAt 46 x11_476 4)) (fun x34_478 =>
 nextS P (V (Instr.loadAt 35 x34_478)) (fun x35_479 =>
 callS P 19 #[x35_479] (fun x36_480 =>
 nextS P (V (Instr.fieldAt 46 x11_476 4)) (fun x37_481 =>
 nextS P (U (Instr.storeAt 35 x37_481 x36_480)) (fun _ =>
 DrawS fun S =>
 pureS P (nilN (e 9)) fun x40_483 =>
 pureS P (V (Instr.fieldAt 60 x40_483 1)) fun x41_484 =>
 pureS P (V (Instr.fieldAt 24 x41_484 0)) fun x42_485 =>
 takeS S P (V (Instr.loadAt 46 x11_476)) fun x44_486 =>
 fun w => (nextS P (V (Instr.loadAt 22 x42_485)) (fun x43_487 w => S w ∧ (nextS P (V (Instr.buildSlice 22 1 #[(0, x44_486)])) (fun x45_488 w => S w ∧ (nextS P (bltN .append #[22, 22] 22 #[false, false] #[x43_487, x45_488]) (fun x46_489 w => S w ∧ (pureS P (nilN (e 9)) fun x47_490 =>
 pureS P (V (Instr.fieldAt 60 x47_490 1)) fun x48_491 =>
 pureS P (V (Instr.fieldAt 24 x48_491 0)) fun x49_492 =>
 nextS P (U (Instr.storeAt 22 x49_492 x46_489)) (fun _ w => S w ∧ (nextS P (binN .add 3 (Operand.tmp 30) (Operand.const (Value.int IntKind.i64 1)) (e 30) (Value.int IntKind.i64 1)) (fun x50_494 =>
 nx21 [(e 1), (e 3), (e 4), (e 9), (e 28), (e 29), x50_494]) pn) w) pn) w) pn) w) pn) w) pn) w ∧ (nextS P (V (Instr.buildSlice 22 1 #[(0, x44_486)])) (fun x45_495 w => S w ∧ (nextS P (V (Instr.loadAt 22 x42_485)) (fun x43_496 w => S w ∧ (nextS P (bltN .append #[22, 22] 22 #[false, false] #[x43_496, x45_495]) (fun x46_497 w => S w ∧ (pureS P (nilN (e 9)) fun x47_498 =>
 pureS P (V (Instr.fieldAt 60 x47_498 1)) fun x48_499 =>
 pureS P (V (Instr.fieldAt 24 x48_499 0)) fun x49_500 =>
 nextS P (U (Instr.storeAt 22 x49_500 x46_497)) (fun _ w => S w ∧ (nextS P (binN .add 3 (Operand.tmp 30) (Operand.const (Value.int IntKind.i64 1)) (e 30) (Value.int IntKind.i64 1)) (fun x50_502 =>
 nx21 [(e 1), (e 3), (e 4), (e 9), (e 28), (e 29), x50_502]) pn) w) pn) w) pn) w) pn) w) pn) w) pn) pn) pn) pn) pn) pn) pn) pn) pn)
 (nextS P (bltN .len #[25] 3 #[false] #[(e 1)]) (fun x52_503 =>
 LoopS [(e 3), (e 4), (e 9), (e 1), x52_503, (Value.int IntKind.i64 0)] [3, 4, 9, 51, 52, 53] fun nx22 e => S11_l22 nx22 ret pn e) pn)) pn
def S11 (a0 a1 a2 a3 : Value) (ret : Value → C) (pn : Pn) : C :=
 nextS P (V (Instr.box 24 a0)) (fun x4_1 =>
 DrawS fun S =>
 takeS S P (bltN .len #[26] 3 #[false] #[a3]) fun x22_2 =>
 fun w => (callS P 18 #[a2] (fun x20_3 w => S w ∧ (fun w => (nextS P (V (Instr.makeChan 56 x22_2)) (fun x23_4 w => S w ∧ (nextS P (V (Instr.makeMap 57 none)) (fun x24_5 w => S w ∧ (pureS P (V (Instr.build 60 #[(0, x20_3), (3, x23_4), (5, x24_5)])) fun x25_6 =>
 nextS P (V (Instr.box 60 x25_6)) (fun x26_7 w => S w ∧ (nextS P (V (Instr.fieldAt 24 x4_1 0)) (fun x27_8 =>
 nextS P (V (Instr.loadAt 22 x27_8)) (fun x28_9 =>
 nextS P (bltN .len #[22] 3 #[false] #[x28_9]) (fun x29_10 =>
 LoopS [a1, a3, x4_1, x26_7, x28_9, x29_10, (Value.int IntKind.i64 0)] [1, 3, 4, 9, 28, 29, 30] fun nx1 e => S11_l1 nx1 ret pn e) pn) pn) pn) w) pn) w) pn) w) pn) w ∧ (nextS P (V (Instr.makeMap 57 none)) (fun x24_96 w => S w ∧ (nextS P (V (Instr.makeChan 56 x22_2)) (fun x23_97 w => S w ∧ (pureS P (V (Instr.build 60 #[(0, x20_3), (3, x23_97), (5, x24_96)])) fun x25_98 =>
 nextS P (V (Instr.box 60 x25_98)) (fun x26_99 w => S w ∧ (nextS P (V (Instr.fieldAt 24 x4_1 0)) (fun x27_100 =>
 nextS P (V (Instr.loadAt 22 x27_100)) (fun x28_101 =>
 nextS P (bltN .len #[22] 3 #[false] #[x28_101]) (fun x29_102 =>
 LoopS [a1, a3, x4_1, x26_99, x28_101, x29_102, (Value.int IntKind.i64 0)] [1, 3, 4, 9, 28, 29, 30] fun nx5 e => S11_l5 nx5 ret pn e) pn) pn) pn) w) pn) w) pn) w) pn) w) w) pn) w ∧ (nextS P (V (Instr.makeChan 56 x22_2)) (fun x23_188 w => S w ∧ (fun w => (callS P 18 #[a2] (fun x20_189 w => S w ∧ (nextS P (V (Instr.makeMap 57 none)) (fun x24_190 w => S w ∧ (pureS P (V (Instr.build 60 #[(0, x20_189), (3, x23_188), (5, x24_190)])) fun x25_191 =>
 nextS P (V (Instr.box 60 x25_191)) (fun x26_192 w => S w ∧ (nextS P (V (Instr.fieldAt 24 x4_1 0)) (fun x27_193 =>
 nextS P (V (Instr.loadAt 22 x27_193)) (fun x28_194 =>
 nextS P (bltN .len #[22] 3 #[false] #[x28_194]) (fun x29_195 =>
 LoopS [a1, a3, x4_1, x26_192, x28_194, x29_195, (Value.int IntKind.i64 0)] [1, 3, 4, 9, 28, 29, 30] fun nx9 e => S11_l9 nx9 ret pn e) pn) pn) pn) w) pn) w) pn) w) pn) w ∧ (nextS P (V (Instr.makeMap 57 none)) (fun x24_281 w => S w ∧ (callS P 18 #[a2] (fun x20_282 w => S w ∧ (pureS P (V (Instr.build 60 #[(0, x20_282), (3, x23_188), (5, x24_281)])) fun x25_283 =>
 nextS P (V (Instr.box 60 x25_283)) (fun x26_284 w => S w ∧ (nextS P (V (Instr.fieldAt 24 x4_1 0)) (fun x27_285 =>
 nextS P (V (Instr.loadAt 22 x27_285)) (fun x28_286 =>
 nextS P (bltN .len #[22] 3 #[false] #[x28_286]) (fun x29_287 =>
 LoopS [a1, a3, x4_1, x26_284, x28_286, x29_287, (Value.int IntKind.i64 0)] [1, 3, 4, 9, 28, 29, 30] fun nx13 e => S11_l13 nx13 ret pn e) pn) pn) pn) w) pn) w) pn) w) pn) w) w) pn) w ∧ (nextS P (V (Instr.makeMap 57 none)) (fun x24_373 w => S w ∧ (fun w => (callS P 18 #[a2] (fun x20_374 w => S w ∧ (nextS P (V (Instr.makeChan 56 x22_2)) (fun x23_375 w => S w ∧ (pureS P (V (Instr.build 60 #[(0, x20_374), (3, x23_375), (5, x24_373)])) fun x25_376 =>
 nextS P (V (Instr.box 60 x25_376)) (fun x26_377 w => S w ∧ (nextS P (V (Instr.fieldAt 24 x4_1 0)) (fun x27_378 =>
 nextS P (V (Instr.loadAt 22 x27_378)) (fun x28_379 =>
 nextS P (bltN .len #[22] 3 #[false] #[x28_379]) (fun x29_380 =>
 LoopS [a1, a3, x4_1, x26_377, x28_379, x29_380, (Value.int IntKind.i64 0)] [1, 3, 4, 9, 28, 29, 30] fun nx17 e => S11_l17 nx17 ret pn e) pn) pn) pn) w) pn) w) pn) w) pn) w ∧ (nextS P (V (Instr.makeChan 56 x22_2)) (fun x23_466 w => S w ∧ (callS P 18 #[a2] (fun x20_467 w => S w ∧ (pureS P (V (Instr.build 60 #[(0, x20_467), (3, x23_466), (5, x24_373)])) fun x25_468 =>
 nextS P (V (Instr.box 60 x25_468)) (fun x26_469 w => S w ∧ (nextS P (V (Instr.fieldAt 24 x4_1 0)) (fun x27_470 =>
 nextS P (V (Instr.loadAt 22 x27_470)) (fun x28_471 =>
 nextS P (bltN .len #[22] 3 #[false] #[x28_471]) (fun x29_472 =>
 LoopS [a1, a3, x4_1, x26_469, x28_471, x29_472, (Value.int IntKind.i64 0)] [1, 3, 4, 9, 28, 29, 30] fun nx21 e => S11_l21 nx21 ret pn e) pn) pn) pn) w) pn) w) pn) w) pn) w) w) pn) w) pn
def mo11 : Nat → Mo
  | 1 => (Mo.take 0 (Mo.take 2 (Mo.take 3 (Mo.three 1 (Mo.two 4 (Mo.eff 5 (Mo.take 6 (Mo.eff 7 (Mo.take 8 Mo.done)))) 5 (Mo.eff 4 (Mo.take 6 (Mo.eff 7 (Mo.take 8 Mo.done))))) 4 (Mo.two 1 (Mo.eff 5 (Mo.take 6 (Mo.eff 7 (Mo.take 8 Mo.done)))) 5 (Mo.eff 1 (Mo.take 6 (Mo.eff 7 (Mo.take 8 Mo.done))))) 5 (Mo.two 1 (Mo.eff 4 (Mo.take 6 (Mo.eff 7 (Mo.take 8 Mo.done)))) 4 (Mo.eff 1 (Mo.take 6 (Mo.eff 7 (Mo.take 8 Mo.done)))))))))
  | 6 => (Mo.take 0 (Mo.take 1 (Mo.take 2 (Mo.take 3 (Mo.take 4 (Mo.take 6 (Mo.two 5 (Mo.eff 7 (Mo.eff 8 (Mo.take 9 (Mo.take 10 (Mo.take 11 (Mo.eff 12 Mo.done)))))) 7 (Mo.eff 5 (Mo.eff 8 (Mo.take 9 (Mo.take 10 (Mo.take 11 (Mo.eff 12 Mo.done)))))))))))))
  | 11 => (Mo.take 0 (Mo.take 1 (Mo.take 2 (Mo.take 3 (Mo.take 5 (Mo.two 4 (Mo.eff 6 (Mo.eff 7 (Mo.eff 8 (Mo.take 9 (Mo.take 10 (Mo.eff 11 Mo.done)))))) 6 (Mo.two 4 (Mo.eff 7 (Mo.eff 8 (Mo.take 9 (Mo.take 10 (Mo.eff 11 Mo.done))))) 7 (Mo.eff 4 (Mo.eff 8 (Mo.take 9 (Mo.take 10 (Mo.eff 11 Mo.done))))))))))))
  | _ => .done
def lv11 : Nat → List Nat
  | 3 => [1, 3, 4, 9, 28, 29, 30]
  | 9 => [3, 4, 9, 51, 52, 53]
  | 14 => [4, 9, 69, 70, 71]
  | 20 => [9, 16, 82, 83, 84]
  | _ => []
theorem ok11 : okC Tryd.f11.ntmps mo11 (Tryd.f11.body.getD .skip) = true := by kernel_rfl
theorem eq11 (a0 a1 a2 a3 : Value) (ret : Value → C) (pn : Pn) : D P mo11 lv11 pn (Tryd.f11.body.getD .skip) (finQ P Tryd.f11.results ret) (env0 [a0, a1, a2, a3]) = S11 a0 a1 a2 a3 ret pn := by kernel_rfl
theorem c11 {a0 a1 a2 a3 : Value} {R : Ending → World → Prop} {w : World} (h : S11 a0 a1 a2 a3 (fun v w => R (.returned v) w) (fun c w => R (.panicked c) w) w) : Calls P 11 #[a0, a1, a2, a3] w R :=
  callsD mixed mo11 lv11 Tryd.func11 rfl (Nat.le_of_ble_eq_true rfl) ok11 ((congrFun (eq11 a0 a1 a2 a3 _ _) w).mpr h)
theorem en11 (args : Array Value) (w : World) : (callFunc 11 args).run P w = .ok (.enter 11 args) w := by kernel_rfl

/-! ### (*evenhand / tier.Manager).Enter -/
def S12_k1 (ret : Value → C) (pn : Pn) (y0 y1 y8 y9 : Value) : C :=
 nextS P (nilN y0) (fun x81_31 =>
 nextS P (V (Instr.fieldAt 60 x81_31 0)) (fun x82_32 =>
 nextS P (V (Instr.loadAt 54 x82_32)) (fun x83_33 =>
 callS P 24 #[x83_33, y1] (fun x85_34 =>
 nextS P (V (Instr.extract x85_34 0)) (fun x86_35 =>
 nextS P (V (Instr.extract x85_34 1)) (fun x87_36 =>
 nextS P (nilN y0) (fun x90_37 =>
 nextS P (V (Instr.fieldAt 60 x90_37 5)) (fun x91_38 =>
 nextS P (V (Instr.loadAt 57 x91_38)) (fun x92_39 =>
 nextS P (V (Instr.lookup 57 x92_39 y1 true)) (fun x94_40 =>
 nextS P (V (Instr.extract x94_40 0)) (fun x95_41 =>
 nextS P (V (Instr.extract x94_40 1)) (fun x96_42 =>
 nextS P (V (Instr.alloc 75 true (.tuple #[]))) (fun x13_43 =>
 nextS P (U (Instr.storeAt 75 x13_43 x95_41)) (fun _ =>
 nextS P (V (Op.unary .not x87_36)) (fun x99_45 =>
 condS x99_45
 (ret (.tuple #[(Value.slice none 0 0), (Value.bool false), y8]))
 (DrawS fun S =>
 grdS x96_42 true (fun K => K y9) fun x104_46 =>
 grdS x96_42 true (pureS P (V (Instr.fieldAt 75 x13_43 0))) fun x105_47 =>
 grdS x96_42 true (takeS S P (V (Instr.loadAt 3 x105_47))) fun x106_48 =>
 grdS x96_42 true (pureS P (V (Instr.indexAt 26 x104_46 x106_48))) fun x107_49 =>
 grdS x96_42 true (takeS S P (V (Instr.loadAt 2 x107_49))) fun x108_50 =>
 grdS x96_42 true (pureS P (V (Instr.fieldAt 75 x13_43 1))) fun x109_51 =>
 grdS x96_42 true (takeS S P (V (Instr.loadAt 2 x109_51))) fun x110_52 =>
 grdS x96_42 true (pureS P (binN .neq 2 (Operand.tmp 108) (Operand.tmp 110) x108_50 x110_52)) fun x111_53 =>
 pureS P (pickN x96_42 x111_53 (Value.bool false)) fun x112_54 =>
 condS x112_54
 (callS P 29 #[y0, (Value.int IntKind.i64 3), y1] (fun x115_55 =>
 nextS P (binN .add 2 (Operand.tmp 116) (Operand.const (Value.int IntKind.i64 50)) y8 (Value.int IntKind.i64 50)) (fun x117_56 =>
 ret (.tuple #[(Value.slice none 0 0), (Value.bool false), x117_56])) pn) pn)
 (callS P 29 #[y0, (Value.int IntKind.i64 2), y1] (fun x120_57 =>
 ret (.tuple #[x86_35, (Value.bool true), y8])) pn))) pn) pn) pn) pn) pn) pn) pn) pn) pn) pn) pn) pn) pn) pn) pn
def S12 (a0 a1 a2 : Value) (ret : Value → C) (pn : Pn) : C :=
 nextS P (binN .lss 3 (Operand.tmp 15) (Operand.const (Value.int IntKind.i64 1)) a1 (Value.int IntKind.i64 1)) (fun x16_1 =>
 grdS x16_1 false (fun K => K a1) fun x18_2 =>
 grdS x16_1 false (fun K => K a0) fun x19_3 =>
 grdS x16_1 false (fun K => nextS P (nilN x19_3) K pn) fun x20_4 =>
 grdS x16_1 false (fun K => nextS P (V (Instr.fieldAt 60 x20_4 1)) K pn) fun x21_5 =>
 grdS x16_1 false (fun K => nextS P (V (Instr.fieldAt 24 x21_5 0)) K pn) fun x22_6 =>
 grdS x16_1 false (fun K => nextS P (V (Instr.loadAt 22 x22_6)) K pn) fun x23_7 =>
 grdS x16_1 false (fun K => nextS P (bltN .len #[22] 3 #[false] #[x23_7]) K pn) fun x24_8 =>
 grdS x16_1 false (fun K => nextS P (binN .geq 3 (Operand.tmp 18) (Operand.tmp 24) x18_2 x24_8) K pn) fun x25_9 =>
 nextS P (pickN x16_1 (Value.bool true) x25_9) (fun x26_10 =>
 condS x26_10
 (ret (.tuple #[(Value.slice none 0 0), (Value.bool false), (Value.int IntKind.i64 0)]))
 (callS P 22 #[a0, a1, a2] (fun x30_11 =>
 nextS P (nilN a0) (fun x32_12 =>
 nextS P (V (Instr.fieldAt 60 x32_12 4)) (fun x33_13 =>
 nextS P (V (Instr.loadAt 58 x33_13)) (fun x34_14 =>
 callS P 23 #[x34_14, a1, x30_11] (fun x37_15 =>
 nextS P (nilN a0) (fun x40_16 =>
 nextS P (V (Instr.fieldAt 60 x40_16 0)) (fun x41_17 =>
 nextS P (V (Instr.loadAt 54 x41_17)) (fun x42_18 =>
 callS P 24 #[x42_18, a1] (fun x44_19 =>
 nextS P (V (Instr.extract x44_19 0)) (fun x45_20 =>
 nextS P (V (Instr.extract x44_19 1)) (fun x46_21 =>
 callS P 25 #[a0] (fun x48_22 =>
 nextS P (binN .eql 2 (Operand.tmp 50) (Operand.const (Value.int IntKind.i64 1)) x48_22 (Value.int IntKind.i64 1)) (fun x51_23 =>
 grdS x51_23 false (fun K => K x48_22) fun x53_24 =>
 grdS x51_23 false (fun K => nextS P (binN .eql 2 (Operand.tmp 53) (Operand.const (Value.int IntKind.i64 2)) x53_24 (Value.int IntKind.i64 2)) K pn) fun x54_25 =>
 nextS P (pickN x51_23 (Value.bool true) x54_25) (fun x55_26 =>
 grdS x55_26 true (fun K => K x46_21) fun x57_27 =>
 grdS x55_26 true (fun K => nextS P (V (Op.unary .not x57_27)) K pn) fun x58_28 =>
 nextS P (pickN x55_26 x58_28 (Value.bool false)) (fun x59_29 =>
 condS x59_29
 (callS P 26 #[a0, a1, x48_22] (fun x63_30 =>
 S12_k1 ret pn a0 a1 x63_30 x30_11) pn)
 (nextS P (binN .eql 2 (Operand.tmp 65) (Operand.const (Value.int IntKind.i64 3)) x48_22 (Value.int IntKind.i64 3)) (fun x66_58 =>
 grdS x66_58 true (fun K => K x46_21) fun x68_59 =>
 nextS P (pickN x66_58 x68_59 (Value.bool false)) (fun x69_60 =>
 condS x69_60
 (nextS P (nilN a0) (fun x71_61 =>
 nextS P (V (Instr.fieldAt 60 x71_61 0)) (fun x72_62 =>
 nextS P (V (Instr.loadAt 54 x72_62)) (fun x73_63 =>
 callS P 27 #[x73_63, a1] (fun x75_64 =>
 callS P 28 #[a0, a1] (fun x78_65 =>
 S12_k1 ret pn a0 a1 (Value.int IntKind.i64 0) x30_11) pn) pn) pn) pn) pn)
 (S12_k1 ret pn a0 a1 (Value.int IntKind.i64 0) x30_11)) pn) pn)) pn) pn) pn) pn) pn) pn) pn) pn) pn) pn) pn) pn) pn) pn) pn)) pn) pn
def mo12 : Nat → Mo
  | 16 => (Mo.take 0 (Mo.take 1 (Mo.take 2 (Mo.take 3 (Mo.take 4 (Mo.take 5 (Mo.take 6 (Mo.take 7 (Mo.take 8 (Mo.take 9 (Mo.take 10 (Mo.take 11 Mo.done))))))))))))
  | _ => .done
def lv12 : Nat → List Nat := fun _ => []
theorem ok12 : okC Tryd.f12.ntmps mo12 (Tryd.f12.body.getD .skip) = true := by kernel_rfl
theorem eq12 (a0 a1 a2 : Value) (ret : Value → C) (pn : Pn) : D P mo12 lv12 pn (Tryd.f12.body.getD .skip) (finQ P Tryd.f12.results ret) (env0 [a0, a1, a2]) = S12 a0 a1 a2 ret pn := by kernel_rfl
theorem c12 {a0 a1 a2 : Value} {R : Ending → World → Prop} {w : World} (h : S12 a0 a1 a2 (fun v w => R (.returned v) w) (fun c w => R (.panicked c) w) w) : Calls P 12 #[a0, a1, a2] w R :=
  callsD mixed mo12 lv12 Tryd.func12 rfl (Nat.le_of_ble_eq_true rfl) ok12 ((congrFun (eq12 a0 a1 a2 _ _) w).mpr h)
theorem en12 (args : Array Value) (w : World) : (callFunc 12 args).run P w = .ok (.enter 12 args) w := by kernel_rfl

/-! ### evenhand / evenhandlaw19.texts -/
def S13 (a0 a1 : Value) (ret : Value → C) (pn : Pn) : C :=
 callS P 17 #[a0] (fun x6_1 =>
 callS P 17 #[a1] (fun x8_2 =>
 nextS P (binN .eql 9 (Operand.tmp 6) (Operand.tmp 8) x6_1 x8_2) (fun x9_3 =>
 grdS x9_3 true (fun K => K a0) fun x11_4 =>
 grdS x9_3 true (fun K => nextS P (bltN .len #[35] 3 #[false] #[x11_4]) K pn) fun x12_5 =>
 grdS x9_3 true (fun K => K a1) fun x13_6 =>
 grdS x9_3 true (fun K => nextS P (bltN .len #[35] 3 #[false] #[x13_6]) K pn) fun x14_7 =>
 grdS x9_3 true (fun K => nextS P (binN .eql 3 (Operand.tmp 12) (Operand.tmp 14) x12_5 x14_7) K pn) fun x15_8 =>
 nextS P (pickN x9_3 x15_8 (Value.bool false)) (fun x16_9 =>
 ret x16_9) pn) pn) pn) pn
def mo13 : Nat → Mo := fun _ => .done
def lv13 : Nat → List Nat := fun _ => []
theorem ok13 : okC Tryd.f13.ntmps mo13 (Tryd.f13.body.getD .skip) = true := by kernel_rfl
theorem eq13 (a0 a1 : Value) (ret : Value → C) (pn : Pn) : D P mo13 lv13 pn (Tryd.f13.body.getD .skip) (finQ P Tryd.f13.results ret) (env0 [a0, a1]) = S13 a0 a1 ret pn := by kernel_rfl
theorem c13 {a0 a1 : Value} {R : Ending → World → Prop} {w : World} (h : S13 a0 a1 (fun v w => R (.returned v) w) (fun c w => R (.panicked c) w) w) : Calls P 13 #[a0, a1] w R :=
  callsD mixed mo13 lv13 Tryd.func13 rfl (Nat.le_of_ble_eq_true rfl) ok13 ((congrFun (eq13 a0 a1 _ _) w).mpr h)
theorem en13 (args : Array Value) (w : World) : (callFunc 13 args).run P w = .ok (.enter 13 args) w := by kernel_rfl

/-! ### evenhand / evenhandlaw19.events -/
def S14_l1 (nx1 : List Value → C) (ret : Value → C) (pn : Pn) (e : Env) : C :=
 nextS P (bltN .len #[40] 3 #[false] #[(e 0)]) (fun x13_4 =>
 nextS P (binN .lss 3 (Operand.tmp 11) (Operand.tmp 13) (e 5) x13_4) (fun x14_5 =>
 condS x14_5
 (DrawS fun S =>
 pureS P (V (Instr.indexAt 40 (e 0) (e 5))) fun x19_6 =>
 takeS S P (V (Instr.loadAt 44 x19_6)) fun x20_7 =>
 pureS P (V (Instr.indexAt 40 (e 1) (e 5))) fun x23_8 =>
 takeS S P (V (Instr.loadAt 44 x23_8)) fun x24_9 =>
 pureS P (binN .neq 44 (Operand.tmp 20) (Operand.tmp 24) x20_7 x24_9) fun x25_10 =>
 condS x25_10
 (ret (Value.bool false))
 (nextS P (binN .add 3 (Operand.tmp 15) (Operand.const (Value.int IntKind.i64 1)) (e 5) (Value.int IntKind.i64 1)) (fun x16_11 =>
 nx1 [(e 0), (e 1), x16_11]) pn))
 (ret (Value.bool true))) pn) pn
def S14 (a0 a1 : Value) (ret : Value → C) (pn : Pn) : C :=
 nextS P (bltN .len #[40] 3 #[false] #[a0]) (fun x7_1 =>
 nextS P (bltN .len #[40] 3 #[false] #[a1]) (fun x9_2 =>
 nextS P (binN .neq 3 (Operand.tmp 7) (Operand.tmp 9) x7_1 x9_2) (fun x10_3 =>
 condS x10_3
 (ret (Value.bool false))
 (LoopS [a0, a1, (Value.int IntKind.i64 0)] [0, 1, 5] fun nx1 e => S14_l1 nx1 ret pn e)) pn) pn) pn
def mo14 : Nat → Mo
  | 6 => (Mo.take 0 (Mo.take 1 (Mo.take 2 (Mo.take 3 (Mo.take 4 (Mo.take 5 (Mo.take 6 (Mo.take 7 (Mo.take 8 Mo.done)))))))))
  | _ => .done
def lv14 : Nat → List Nat
  | 4 => [0, 1, 5]
  | _ => []
theorem ok14 : okC Tryd.f14.ntmps mo14 (Tryd.f14.body.getD .skip) = true := by kernel_rfl
theorem eq14 (a0 a1 : Value) (ret : Value → C) (pn : Pn) : D P mo14 lv14 pn (Tryd.f14.body.getD .skip) (finQ P Tryd.f14.results ret) (env0 [a0, a1]) = S14 a0 a1 ret pn := by kernel_rfl
theorem c14 {a0 a1 : Value} {R : Ending → World → Prop} {w : World} (h : S14 a0 a1 (fun v w => R (.returned v) w) (fun c w => R (.panicked c) w) w) : Calls P 14 #[a0, a1] w R :=
  callsD mixed mo14 lv14 Tryd.func14 rfl (Nat.le_of_ble_eq_true rfl) ok14 ((congrFun (eq14 a0 a1 _ _) w).mpr h)
theorem en14 (args : Array Value) (w : World) : (callFunc 14 args).run P w = .ok (.enter 14 args) w := by kernel_rfl

/-! ### (*evenhand / tier.Manager).Events -/
def S15 (a0 : Value) (ret : Value → C) (pn : Pn) : C :=
 nextS P (nilN a0) (fun x4_1 =>
 nextS P (V (Instr.fieldAt 60 x4_1 6)) (fun x5_2 =>
 nextS P (V (Instr.loadAt 40 x5_2)) (fun x6_3 =>
 callS P 30 #[x6_3] (fun x7_4 =>
 ret x7_4) pn) pn) pn) pn
def mo15 : Nat → Mo := fun _ => .done
def lv15 : Nat → List Nat := fun _ => []
theorem ok15 : okC Tryd.f15.ntmps mo15 (Tryd.f15.body.getD .skip) = true := by kernel_rfl
theorem eq15 (a0 : Value) (ret : Value → C) (pn : Pn) : D P mo15 lv15 pn (Tryd.f15.body.getD .skip) (finQ P Tryd.f15.results ret) (env0 [a0]) = S15 a0 ret pn := by kernel_rfl
theorem c15 {a0 : Value} {R : Ending → World → Prop} {w : World} (h : S15 a0 (fun v w => R (.returned v) w) (fun c w => R (.panicked c) w) w) : Calls P 15 #[a0] w R :=
  callsD mixed mo15 lv15 Tryd.func15 rfl (Nat.le_of_ble_eq_true rfl) ok15 ((congrFun (eq15 a0 _ _) w).mpr h)
theorem en15 (args : Array Value) (w : World) : (callFunc 15 args).run P w = .ok (.enter 15 args) w := by kernel_rfl

/-! ### evenhand / evenhandlaw19.pair -/
def S16 (ret : Value → C) (pn : Pn) : C :=
 nextS P (V (Instr.alloc 24 true (.tuple #[]))) (fun x0_1 =>
 nextS P (V (Instr.build 51 #[(0, (Value.int IntKind.i64 2))])) (fun x2_2 =>
 nextS P (V (Instr.build 51 #[(0, (Value.int IntKind.i64 1)), (2, (Value.int IntKind.i64 3))])) (fun x3_3 =>
 nextS P (V (Instr.build 51 #[(0, (Value.int IntKind.i64 8))])) (fun x4_4 =>
 nextS P (V (Instr.build 51 #[(0, (Value.int IntKind.i64 18))])) (fun x5_5 =>
 nextS P (V (Instr.buildSlice 35 4 #[(0, x2_2), (1, x3_3), (2, x4_4), (3, x5_5)])) (fun x6_6 =>
 nextS P (V (Instr.build 51 #[(0, (Value.int IntKind.i64 1))])) (fun x7_7 =>
 nextS P (V (Instr.build 51 #[(0, (Value.int IntKind.i64 18))])) (fun x8_8 =>
 nextS P (V (Instr.buildSlice 35 2 #[(0, x7_7), (1, x8_8)])) (fun x9_9 =>
 nextS P (V (Instr.build 46 #[(4, x9_9)])) (fun x10_10 =>
 nextS P (V (Instr.build 46 #[(0, (Value.string { data := #[102] })), (1, (Value.int IntKind.i64 1)), (2, (Value.int IntKind.i64 1)), (4, x6_6)])) (fun x12_11 =>
 nextS P (V (Instr.buildSlice 22 2 #[(0, x10_10), (1, x12_11)])) (fun x13_12 =>
 nextS P (V (Instr.build 24 #[(0, x13_12)])) (fun x14_13 =>
 nextS P (U (Instr.storeAt 24 x0_1 x14_13)) (fun _ =>
 cellS P 24 x0_1 ret) pn) pn) pn) pn) pn) pn) pn) pn) pn) pn) pn) pn) pn) pn
def mo16 : Nat → Mo := fun _ => .done
def lv16 : Nat → List Nat := fun _ => []
theorem ok16 : okC Tryd.f16.ntmps mo16 (Tryd.f16.body.getD .skip) = true := by kernel_rfl
theorem eq16 (ret : Value → C) (pn : Pn) : D P mo16 lv16 pn (Tryd.f16.body.getD .skip) (finQ P Tryd.f16.results ret) (env0 []) = S16 ret pn := by kernel_rfl
theorem c16 {R : Ending → World → Prop} {w : World} (h : S16 (fun v w => R (.returned v) w) (fun c w => R (.panicked c) w) w) : Calls P 16 #[] w R :=
  callsD mixed mo16 lv16 Tryd.func16 rfl (Nat.le_of_ble_eq_true rfl) ok16 ((congrFun (eq16  _ _) w).mpr h)
theorem en16 (args : Array Value) (w : World) : (callFunc 16 args).run P w = .ok (.enter 16 args) w := by kernel_rfl

/-! ### evenhand / code.Text -/
def S17_l1 (nx1 : List Value → C) (ret : Value → C) (pn : Pn) (e : Env) : C :=
 nextS P (binN .lss 3 (Operand.tmp 8) (Operand.tmp 7) (e 8) (e 7)) (fun x9_3 =>
 condS x9_3
 (nextS P (V (Instr.indexAt 35 (e 6) (e 8))) (fun x11_4 =>
 nextS P (V (Instr.loadAt 51 x11_4)) (fun x12_5 =>
 nextS P (V (Instr.alloc 51 true (.tuple #[]))) (fun x5_6 =>
 nextS P (U (Instr.storeAt 51 x5_6 x12_5)) (fun _ =>
 nextS P (V (Instr.loadAt 51 x5_6)) (fun x13_8 =>
 callS P 32 #[x13_8, (e 8)] (fun x15_9 =>
 callS P 31 #[(e 3), x15_9] (fun x16_10 =>
 nextS P (binN .add 3 (Operand.tmp 8) (Operand.const (Value.int IntKind.i64 1)) (e 8) (Value.int IntKind.i64 1)) (fun x17_11 =>
 nx1 [(e 3), (e 6), (e 7), x17_11]) pn) pn) pn) pn) pn) pn) pn) pn)
 (callS P 33 #[(e 3)] (fun x18_12 =>
 ret x18_12) pn)) pn
def S17 (a0 : Value) (ret : Value → C) (pn : Pn) : C :=
 nextS P (V (Instr.alloc 82 true (.tuple #[]))) (fun x3_1 =>
 nextS P (bltN .len #[35] 3 #[false] #[a0]) (fun x7_2 =>
 LoopS [x3_1, a0, x7_2, (Value.int IntKind.i64 0)] [3, 6, 7, 8] fun nx1 e => S17_l1 nx1 ret pn e) pn) pn
def mo17 : Nat → Mo := fun _ => .done
def lv17 : Nat → List Nat
  | 3 => [3, 6, 7, 8]
  | _ => []
theorem ok17 : okC Tryd.f17.ntmps mo17 (Tryd.f17.body.getD .skip) = true := by kernel_rfl
theorem eq17 (a0 : Value) (ret : Value → C) (pn : Pn) : D P mo17 lv17 pn (Tryd.f17.body.getD .skip) (finQ P Tryd.f17.results ret) (env0 [a0]) = S17 a0 ret pn := by kernel_rfl
theorem c17 {a0 : Value} {R : Ending → World → Prop} {w : World} (h : S17 a0 (fun v w => R (.returned v) w) (fun c w => R (.panicked c) w) w) : Calls P 17 #[a0] w R :=
  callsD mixed mo17 lv17 Tryd.func17 rfl (Nat.le_of_ble_eq_true rfl) ok17 ((congrFun (eq17 a0 _ _) w).mpr h)
theorem en17 (args : Array Value) (w : World) : (callFunc 17 args).run P w = .ok (.enter 17 args) w := by kernel_rfl

/-! ### evenhand / cache.New -/
def S18 (a0 : Value) (ret : Value → C) (pn : Pn) : C :=
 nextS P (bltN .max #[3, 3] 3 #[false, true] #[a0, (Value.int IntKind.i64 1)]) (fun x4_1 =>
 nextS P (bltN .min #[3, 3] 3 #[false, true] #[x4_1, (Value.int IntKind.i64 32)]) (fun x5_2 =>
 nextS P (V (Instr.makeMap 89 none)) (fun x6_3 =>
 nextS P (V (Instr.build 91 #[(0, x5_2), (2, x6_3)])) (fun x7_4 =>
 nextS P (V (Instr.box 91 x7_4)) (fun x8_5 =>
 ret x8_5) pn) pn) pn) pn) pn
def mo18 : Nat → Mo := fun _ => .done
def lv18 : Nat → List Nat := fun _ => []
theorem ok18 : okC Tryd.f18.ntmps mo18 (Tryd.f18.body.getD .skip) = true := by kernel_rfl
theorem eq18 (a0 : Value) (ret : Value → C) (pn : Pn) : D P mo18 lv18 pn (Tryd.f18.body.getD .skip) (finQ P Tryd.f18.results ret) (env0 [a0]) = S18 a0 ret pn := by kernel_rfl
theorem c18 {a0 : Value} {R : Ending → World → Prop} {w : World} (h : S18 a0 (fun v w => R (.returned v) w) (fun c w => R (.panicked c) w) w) : Calls P 18 #[a0] w R :=
  callsD mixed mo18 lv18 Tryd.func18 rfl (Nat.le_of_ble_eq_true rfl) ok18 ((congrFun (eq18 a0 _ _) w).mpr h)
theorem en18 (args : Array Value) (w : World) : (callFunc 18 args).run P w = .ok (.enter 18 args) w := by kernel_rfl

/-! ### slices.Clone[[]evenhand / code.Ins,evenhand / code.Ins] -/
def S19 (a0 : Value) (ret : Value → C) (pn : Pn) : C :=
 nextS P (binN .eql 35 (Operand.tmp 3) (Operand.const (Value.slice none 0 0)) a0 (Value.slice none 0 0)) (fun x4_1 =>
 condS x4_1
 (ret (Value.slice none 0 0))
 (nextS P (V (Instr.buildSlice 35 0 #[])) (fun x5_2 =>
 nextS P (bltN .append #[35, 35] 35 #[false, false] #[x5_2, a0]) (fun x7_3 =>
 ret x7_3) pn) pn)) pn
def mo19 : Nat → Mo := fun _ => .done
def lv19 : Nat → List Nat := fun _ => []
theorem ok19 : okC Tryd.f19.ntmps mo19 (Tryd.f19.body.getD .skip) = true := by kernel_rfl
theorem eq19 (a0 : Value) (ret : Value → C) (pn : Pn) : D P mo19 lv19 pn (Tryd.f19.body.getD .skip) (finQ P Tryd.f19.results ret) (env0 [a0]) = S19 a0 ret pn := by kernel_rfl
theorem c19 {a0 : Value} {R : Ending → World → Prop} {w : World} (h : S19 a0 (fun v w => R (.returned v) w) (fun c w => R (.panicked c) w) w) : Calls P 19 #[a0] w R :=
  callsD mixed mo19 lv19 Tryd.func19 rfl (Nat.le_of_ble_eq_true rfl) ok19 ((congrFun (eq19 a0 _ _) w).mpr h)
theorem en19 (args : Array Value) (w : World) : (callFunc 19 args).run P w = .ok (.enter 19 args) w := by kernel_rfl

/-! ### slices.Clone[[]bool,bool] -/
def S20 (a0 : Value) (ret : Value → C) (pn : Pn) : C :=
 nextS P (binN .eql 34 (Operand.tmp 3) (Operand.const (Value.slice none 0 0)) a0 (Value.slice none 0 0)) (fun x4_1 =>
 condS x4_1
 (ret (Value.slice none 0 0))
 (nextS P (V (Instr.buildSlice 34 0 #[])) (fun x5_2 =>
 nextS P (bltN .append #[34, 34] 34 #[false, false] #[x5_2, a0]) (fun x7_3 =>
 ret x7_3) pn) pn)) pn
def mo20 : Nat → Mo := fun _ => .done
def lv20 : Nat → List Nat := fun _ => []
theorem ok20 : okC Tryd.f20.ntmps mo20 (Tryd.f20.body.getD .skip) = true := by kernel_rfl
theorem eq20 (a0 : Value) (ret : Value → C) (pn : Pn) : D P mo20 lv20 pn (Tryd.f20.body.getD .skip) (finQ P Tryd.f20.results ret) (env0 [a0]) = S20 a0 ret pn := by kernel_rfl
theorem c20 {a0 : Value} {R : Ending → World → Prop} {w : World} (h : S20 a0 (fun v w => R (.returned v) w) (fun c w => R (.panicked c) w) w) : Calls P 20 #[a0] w R :=
  callsD mixed mo20 lv20 Tryd.func20 rfl (Nat.le_of_ble_eq_true rfl) ok20 ((congrFun (eq20 a0 _ _) w).mpr h)
theorem en20 (args : Array Value) (w : World) : (callFunc 20 args).run P w = .ok (.enter 20 args) w := by kernel_rfl

/-! ### evenhand / profile.New -/
def S21_l1 (nx1 : List Value → C) (ret : Value → C) (pn : Pn) (e : Env) : C :=
 nextS P (binN .lss 3 (Operand.tmp 10) (Operand.tmp 9) (e 10) (e 9)) (fun x11_4 =>
 condS x11_4
 (nextS P (V (Instr.indexAt 63 (e 8) (e 10))) (fun x12_5 =>
 nextS P (V (Instr.loadAt 3 x12_5)) (fun x13_6 =>
 nextS P (nilN (e 3)) (fun x16_7 =>
 nextS P (V (Instr.fieldAt 94 x16_7 0)) (fun x17_8 =>
 nextS P (V (Instr.loadAt 92 x17_8)) (fun x18_9 =>
 nextS P (bltN .max #[3, 3] 3 #[false, true] #[x13_6, (Value.int IntKind.i64 0)]) (fun x20_10 =>
 nextS P (bltN .min #[3, 3] 3 #[false, true] #[x20_10, (Value.int IntKind.i64 8)]) (fun x21_11 =>
 nextS P (V (Instr.build 99 #[(0, x21_11)])) (fun x22_12 =>
 nextS P (V (Instr.buildSlice 92 1 #[(0, x22_12)])) (fun x23_13 =>
 nextS P (bltN .append #[92, 92] 92 #[false, false] #[x18_9, x23_13]) (fun x24_14 =>
 nextS P (nilN (e 3)) (fun x25_15 =>
 nextS P (V (Instr.fieldAt 94 x25_15 0)) (fun x26_16 =>
 nextS P (U (Instr.storeAt 92 x26_16 x24_14)) (fun _ =>
 nextS P (binN .add 3 (Operand.tmp 10) (Operand.const (Value.int IntKind.i64 1)) (e 10) (Value.int IntKind.i64 1)) (fun x27_18 =>
 nx1 [(e 3), (e 8), (e 9), x27_18]) pn) pn) pn) pn) pn) pn) pn) pn) pn) pn) pn) pn) pn) pn)
 (ret (e 3))) pn
def S21 (a0 : Value) (ret : Value → C) (pn : Pn) : C :=
 nextS P (V (Instr.build 94 #[])) (fun x6_1 =>
 nextS P (V (Instr.box 94 x6_1)) (fun x7_2 =>
 nextS P (bltN .len #[63] 3 #[false] #[a0]) (fun x9_3 =>
 LoopS [x7_2, a0, x9_3, (Value.int IntKind.i64 0)] [3, 8, 9, 10] fun nx1 e => S21_l1 nx1 ret pn e) pn) pn) pn
def mo21 : Nat → Mo := fun _ => .done
def lv21 : Nat → List Nat
  | 3 => [3, 8, 9, 10]
  | _ => []
theorem ok21 : okC Tryd.f21.ntmps mo21 (Tryd.f21.body.getD .skip) = true := by kernel_rfl
theorem eq21 (a0 : Value) (ret : Value → C) (pn : Pn) : D P mo21 lv21 pn (Tryd.f21.body.getD .skip) (finQ P Tryd.f21.results ret) (env0 [a0]) = S21 a0 ret pn := by kernel_rfl
theorem c21 {a0 : Value} {R : Ending → World → Prop} {w : World} (h : S21 a0 (fun v w => R (.returned v) w) (fun c w => R (.panicked c) w) w) : Calls P 21 #[a0] w R :=
  callsD mixed mo21 lv21 Tryd.func21 rfl (Nat.le_of_ble_eq_true rfl) ok21 ((congrFun (eq21 a0 _ _) w).mpr h)
theorem en21 (args : Array Value) (w : World) : (callFunc 21 args).run P w = .ok (.enter 21 args) w := by kernel_rfl

/-! ### (*evenhand / tier.Manager).seen -/
def S22_k2 (nx1 : List Value → C) (ret : Value → C) (pn : Pn) (y0 y1 y7 y17 y18 : Value) : C :=
 nextS P (binN .add 3 (Operand.tmp 18) (Operand.const (Value.int IntKind.i64 1)) y18 (Value.int IntKind.i64 1)) (fun x29_10 =>
 nx1 [y0, y1, y7, y17, x29_10]) pn
def S22_l1 (nx1 : List Value → C) (ret : Value → C) (pn : Pn) (e : Env) : C :=
 nextS P (binN .lss 3 (Operand.tmp 18) (Operand.tmp 17) (e 18) (e 17)) (fun x19_5 =>
 condS x19_5
 (callS P 35 #[(e 0), (e 1), (e 18)] (fun x24_6 =>
 nextS P (V (Op.unary .not x24_6)) (fun x25_7 =>
 condS x25_7
 (nextS P (V (Instr.indexAt 26 (e 7) (e 18))) (fun x28_8 =>
 nextS P (U (Instr.storeAt 2 x28_8 (Value.int IntKind.i64 0))) (fun _ =>
 S22_k2 nx1 ret pn (e 0) (e 1) (e 7) (e 17) (e 18)) pn) pn)
 (S22_k2 nx1 ret pn (e 0) (e 1) (e 7) (e 17) (e 18))) pn) pn)
 (ret (e 7))) pn
def S22 (a0 a1 a2 : Value) (ret : Value → C) (pn : Pn) : C :=
 callS P 34 #[a0, a1] (fun x11_1 =>
 nextS P (V (Instr.makeSlice 26 x11_1 x11_1)) (fun x12_2 =>
 nextS P (bltN .copy #[26, 26] 3 #[false, false] #[x12_2, a2]) (fun x15_3 =>
 nextS P (bltN .len #[26] 3 #[false] #[x12_2]) (fun x17_4 =>
 LoopS [a0, a1, x12_2, x17_4, (Value.int IntKind.i64 0)] [0, 1, 7, 17, 18] fun nx1 e => S22_l1 nx1 ret pn e) pn) pn) pn) pn
def mo22 : Nat → Mo := fun _ => .done
def lv22 : Nat → List Nat
  | 4 => [0, 1, 7, 17, 18]
  | _ => []
theorem ok22 : okC Tryd.f22.ntmps mo22 (Tryd.f22.body.getD .skip) = true := by kernel_rfl
theorem eq22 (a0 a1 a2 : Value) (ret : Value → C) (pn : Pn) : D P mo22 lv22 pn (Tryd.f22.body.getD .skip) (finQ P Tryd.f22.results ret) (env0 [a0, a1, a2]) = S22 a0 a1 a2 ret pn := by kernel_rfl
theorem c22 {a0 a1 a2 : Value} {R : Ending → World → Prop} {w : World} (h : S22 a0 a1 a2 (fun v w => R (.returned v) w) (fun c w => R (.panicked c) w) w) : Calls P 22 #[a0, a1, a2] w R :=
  callsD mixed mo22 lv22 Tryd.func22 rfl (Nat.le_of_ble_eq_true rfl) ok22 ((congrFun (eq22 a0 a1 a2 _ _) w).mpr h)
theorem en22 (args : Array Value) (w : World) : (callFunc 22 args).run P w = .ok (.enter 22 args) w := by kernel_rfl

/-! ### (*evenhand / profile.Profile).See -/
def S23_l1 (nx1 : List Value → C) (ret : Value → C) (pn : Pn) (e : Env) : C :=
 nextS P (binN .lss 3 (Operand.tmp 35) (Operand.tmp 34) (e 35) (e 34)) (fun x36_17 =>
 condS x36_17
 (nextS P (V (Instr.indexAt 26 (e 33) (e 35))) (fun x38_18 =>
 nextS P (V (Instr.loadAt 2 x38_18)) (fun x39_19 =>
 nextS P (nilN (e 7)) (fun x42_20 =>
 nextS P (V (Instr.fieldAt 99 x42_20 2)) (fun x43_21 =>
 nextS P (V (Instr.indexAt 97 x43_21 (e 35))) (fun x44_22 =>
 callS P 37 #[x44_22, x39_19] (fun x46_23 =>
 nextS P (binN .add 3 (Operand.tmp 35) (Operand.const (Value.int IntKind.i64 1)) (e 35) (Value.int IntKind.i64 1)) (fun x47_24 =>
 nx1 [(e 7), (e 33), (e 34), x47_24]) pn) pn) pn) pn) pn) pn) pn)
 (ret (Value.int IntKind.i64 0))) pn
def S23 (a0 a1 a2 : Value) (ret : Value → C) (pn : Pn) : C :=
 callS P 36 #[a0, a1] (fun x12_1 =>
 nextS P (binN .eql 101 (Operand.tmp 14) (Operand.const (Value.pointer none)) x12_1 (Value.pointer none)) (fun x15_2 =>
 condS x15_2
 (ret (Value.int IntKind.i64 11))
 (nextS P (bltN .len #[26] 3 #[false] #[a2]) (fun x18_3 =>
 nextS P (nilN x12_1) (fun x20_4 =>
 nextS P (V (Instr.fieldAt 99 x20_4 0)) (fun x21_5 =>
 nextS P (V (Instr.loadAt 3 x21_5)) (fun x22_6 =>
 nextS P (binN .neq 3 (Operand.tmp 18) (Operand.tmp 22) x18_3 x22_6) (fun x23_7 =>
 condS x23_7
 (ret (Value.int IntKind.i64 1))
 (nextS P (nilN x12_1) (fun x26_8 =>
 nextS P (V (Instr.fieldAt 99 x26_8 1)) (fun x27_9 =>
 nextS P (V (Instr.loadAt 3 x27_9)) (fun x28_10 =>
 nextS P (binN .add 3 (Operand.tmp 28) (Operand.const (Value.int IntKind.i64 1)) x28_10 (Value.int IntKind.i64 1)) (fun x29_11 =>
 nextS P (bltN .min #[3, 3] 3 #[false, true] #[x29_11, (Value.int IntKind.i64 1000)]) (fun x30_12 =>
 nextS P (nilN x12_1) (fun x31_13 =>
 nextS P (V (Instr.fieldAt 99 x31_13 1)) (fun x32_14 =>
 nextS P (U (Instr.storeAt 3 x32_14 x30_12)) (fun _ =>
 nextS P (bltN .len #[26] 3 #[false] #[a2]) (fun x34_16 =>
 LoopS [x12_1, a2, x34_16, (Value.int IntKind.i64 0)] [7, 33, 34, 35] fun nx1 e => S23_l1 nx1 ret pn e) pn) pn) pn) pn) pn) pn) pn) pn) pn)) pn) pn) pn) pn) pn)) pn) pn
def mo23 : Nat → Mo := fun _ => .done
def lv23 : Nat → List Nat
  | 8 => [7, 33, 34, 35]
  | _ => []
theorem ok23 : okC Tryd.f23.ntmps mo23 (Tryd.f23.body.getD .skip) = true := by kernel_rfl
theorem eq23 (a0 a1 a2 : Value) (ret : Value → C) (pn : Pn) : D P mo23 lv23 pn (Tryd.f23.body.getD .skip) (finQ P Tryd.f23.results ret) (env0 [a0, a1, a2]) = S23 a0 a1 a2 ret pn := by kernel_rfl
theorem c23 {a0 a1 a2 : Value} {R : Ending → World → Prop} {w : World} (h : S23 a0 a1 a2 (fun v w => R (.returned v) w) (fun c w => R (.panicked c) w) w) : Calls P 23 #[a0, a1, a2] w R :=
  callsD mixed mo23 lv23 Tryd.func23 rfl (Nat.le_of_ble_eq_true rfl) ok23 ((congrFun (eq23 a0 a1 a2 _ _) w).mpr h)
theorem en23 (args : Array Value) (w : World) : (callFunc 23 args).run P w = .ok (.enter 23 args) w := by kernel_rfl

/-! ### (*evenhand / cache.Cache).Get -/
def S24 (a0 a1 : Value) (ret : Value → C) (pn : Pn) : C :=
 nextS P (nilN a0) (fun x10_1 =>
 nextS P (V (Instr.fieldAt 91 x10_1 2)) (fun x11_2 =>
 nextS P (V (Instr.loadAt 89 x11_2)) (fun x12_3 =>
 nextS P (V (Instr.lookup 89 x12_3 a1 true)) (fun x14_4 =>
 nextS P (V (Instr.extract x14_4 0)) (fun x15_5 =>
 nextS P (V (Instr.extract x14_4 1)) (fun x16_6 =>
 callS P 19 #[x15_5] (fun x18_7 =>
 ret (.tuple #[x18_7, x16_6])) pn) pn) pn) pn) pn) pn) pn
def mo24 : Nat → Mo := fun _ => .done
def lv24 : Nat → List Nat := fun _ => []
theorem ok24 : okC Tryd.f24.ntmps mo24 (Tryd.f24.body.getD .skip) = true := by kernel_rfl
theorem eq24 (a0 a1 : Value) (ret : Value → C) (pn : Pn) : D P mo24 lv24 pn (Tryd.f24.body.getD .skip) (finQ P Tryd.f24.results ret) (env0 [a0, a1]) = S24 a0 a1 ret pn := by kernel_rfl
theorem c24 {a0 a1 : Value} {R : Ending → World → Prop} {w : World} (h : S24 a0 a1 (fun v w => R (.returned v) w) (fun c w => R (.panicked c) w) w) : Calls P 24 #[a0, a1] w R :=
  callsD mixed mo24 lv24 Tryd.func24 rfl (Nat.le_of_ble_eq_true rfl) ok24 ((congrFun (eq24 a0 a1 _ _) w).mpr h)
theorem en24 (args : Array Value) (w : World) : (callFunc 24 args).run P w = .ok (.enter 24 args) w := by kernel_rfl

/-! ### (*evenhand / tier.Manager).pick -/
def S25 (a0 : Value) (ret : Value → C) (pn : Pn) : C :=
 nextS P (nilN a0) (fun x5_1 =>
 nextS P (V (Instr.fieldAt 60 x5_1 3)) (fun x6_2 =>
 nextS P (V (Instr.loadAt 56 x6_2)) (fun x7_3 =>
 commS P (selRecvN x7_3 2) fun x8_4 =>
 nextS P (V (Instr.extract x8_4 0)) (fun x9_5 =>
 nextS P (binN .eql 3 (Operand.tmp 9) (Operand.const (Value.int IntKind.i64 0)) x9_5 (Value.int IntKind.i64 0)) (fun x10_6 =>
 condS x10_6
 (nextS P (V (Instr.extract x8_4 2)) (fun x11_7 =>
 ret x11_7) pn)
 (ret (Value.int IntKind.i64 0))) pn) pn) pn) pn) pn
def mo25 : Nat → Mo := fun _ => .done
def lv25 : Nat → List Nat := fun _ => []
theorem ok25 : okC Tryd.f25.ntmps mo25 (Tryd.f25.body.getD .skip) = true := by kernel_rfl
theorem eq25 (a0 : Value) (ret : Value → C) (pn : Pn) : D P mo25 lv25 pn (Tryd.f25.body.getD .skip) (finQ P Tryd.f25.results ret) (env0 [a0]) = S25 a0 ret pn := by kernel_rfl
theorem c25 {a0 : Value} {R : Ending → World → Prop} {w : World} (h : S25 a0 (fun v w => R (.returned v) w) (fun c w => R (.panicked c) w) w) : Calls P 25 #[a0] w R :=
  callsD mixed mo25 lv25 Tryd.func25 rfl (Nat.le_of_ble_eq_true rfl) ok25 ((congrFun (eq25 a0 _ _) w).mpr h)
theorem en25 (args : Array Value) (w : World) : (callFunc 25 args).run P w = .ok (.enter 25 args) w := by kernel_rfl

/-! ### (*evenhand / tier.Manager).compiles -/
def S26_k1 (ret : Value → C) (pn : Pn) (y0 y1 : Value) : C :=
 nextS P (nilN y0) (fun x32_10 =>
 nextS P (V (Instr.fieldAt 60 x32_10 1)) (fun x33_11 =>
 nextS P (V (Instr.fieldAt 24 x33_11 0)) (fun x34_12 =>
 nextS P (V (Instr.loadAt 22 x34_12)) (fun x35_13 =>
 nextS P (V (Instr.indexAt 22 x35_13 y1)) (fun x37_14 =>
 nextS P (V (Instr.fieldAt 46 x37_14 4)) (fun x38_15 =>
 nextS P (V (Instr.loadAt 35 x38_15)) (fun x39_16 =>
 nextS P (bltN .len #[35] 3 #[false] #[x39_16]) (fun x40_17 =>
 nextS P (binN .mul 3 (Operand.const (Value.int IntKind.i64 2)) (Operand.tmp 40) (Value.int IntKind.i64 2) x40_17) (fun x41_18 =>
 ret x41_18) pn) pn) pn) pn) pn) pn) pn) pn) pn
def S26 (a0 a1 a2 : Value) (ret : Value → C) (pn : Pn) : C :=
 callS P 38 #[a0, a1, a2] (fun x13_1 =>
 callS P 29 #[a0, (Value.int IntKind.i64 1), a1] (fun x16_2 =>
 nextS P (nilN a0) (fun x19_3 =>
 nextS P (V (Instr.fieldAt 60 x19_3 0)) (fun x20_4 =>
 nextS P (V (Instr.loadAt 54 x20_4)) (fun x21_5 =>
 callS P 39 #[x21_5, a1, x13_1] (fun x24_6 =>
 nextS P (V (Instr.extract x24_6 0)) (fun x25_7 =>
 nextS P (V (Instr.extract x24_6 1)) (fun x26_8 =>
 condS x26_8
 (callS P 28 #[a0, x25_7] (fun x30_9 =>
 S26_k1 ret pn a0 a1) pn)
 (S26_k1 ret pn a0 a1)) pn) pn) pn) pn) pn) pn) pn) pn
def mo26 : Nat → Mo := fun _ => .done
def lv26 : Nat → List Nat := fun _ => []
theorem ok26 : okC Tryd.f26.ntmps mo26 (Tryd.f26.body.getD .skip) = true := by kernel_rfl
theorem eq26 (a0 a1 a2 : Value) (ret : Value → C) (pn : Pn) : D P mo26 lv26 pn (Tryd.f26.body.getD .skip) (finQ P Tryd.f26.results ret) (env0 [a0, a1, a2]) = S26 a0 a1 a2 ret pn := by kernel_rfl
theorem c26 {a0 a1 a2 : Value} {R : Ending → World → Prop} {w : World} (h : S26 a0 a1 a2 (fun v w => R (.returned v) w) (fun c w => R (.panicked c) w) w) : Calls P 26 #[a0, a1, a2] w R :=
  callsD mixed mo26 lv26 Tryd.func26 rfl (Nat.le_of_ble_eq_true rfl) ok26 ((congrFun (eq26 a0 a1 a2 _ _) w).mpr h)
theorem en26 (args : Array Value) (w : World) : (callFunc 26 args).run P w = .ok (.enter 26 args) w := by kernel_rfl

/-! ### (*evenhand / cache.Cache).Drop -/
def S27 (a0 a1 : Value) (ret : Value → C) (pn : Pn) : C :=
 nextS P (V (Instr.box 3 a1)) (fun x3_1 =>
 DrawS fun S =>
 pureS P (nilN a0) fun x9_2 =>
 pureS P (V (Instr.fieldAt 91 x9_2 2)) fun x10_3 =>
 takeS S P (V (Instr.loadAt 89 x10_3)) fun x11_4 =>
 takeS S P (V (Instr.loadAt 3 x3_1)) fun x12_5 =>
 takeS S P (V (Instr.lookup 89 x11_4 x12_5 true)) fun x13_6 =>
 pureS P (V (Instr.extract x13_6 0)) fun x14_7 =>
 pureS P (V (Instr.extract x13_6 1)) fun x15_8 =>
 nextS P (V (Op.unary .not x15_8)) (fun x17_9 =>
 condS x17_9
 (ret (Value.bool false))
 (DrawS fun S =>
 pureS P (nilN a0) fun x19_10 =>
 pureS P (V (Instr.fieldAt 91 x19_10 2)) fun x20_11 =>
 takeS S P (V (Instr.loadAt 89 x20_11)) fun x21_12 =>
 takeS S P (V (Instr.loadAt 3 x3_1)) fun x22_13 =>
 nextS P (bltN .delete #[89, 3] 0 #[false, false] #[x21_12, x22_13]) (fun _ w => S w ∧ (nextS P (nilN a0) (fun x25_15 =>
 nextS P (V (Instr.fieldAt 91 x25_15 1)) (fun x26_16 =>
 nextS P (V (Instr.loadAt 63 x26_16)) (fun x27_17 =>
 nextS P (V (Instr.makeFunc (Fn.func 41) #[] #[x3_1])) (fun x28_18 =>
 callS P 40 #[x27_17, x28_18] (fun x29_19 =>
 nextS P (nilN a0) (fun x30_20 =>
 nextS P (V (Instr.fieldAt 91 x30_20 1)) (fun x31_21 =>
 nextS P (U (Instr.storeAt 63 x31_21 x29_19)) (fun _ =>
 ret (Value.bool true)) pn) pn) pn) pn) pn) pn) pn) pn) w) pn)) pn) pn
def mo27 : Nat → Mo
  | 1 => (Mo.take 0 (Mo.take 1 (Mo.take 2 (Mo.take 3 (Mo.take 4 (Mo.take 5 (Mo.take 6 (Mo.take 7 (Mo.take 8 (Mo.take 9 (Mo.take 10 Mo.done)))))))))))
  | 4 => (Mo.take 0 (Mo.take 1 (Mo.take 2 (Mo.take 3 (Mo.take 4 (Mo.eff 5 Mo.done))))))
  | _ => .done
def lv27 : Nat → List Nat := fun _ => []
theorem ok27 : okC Tryd.f27.ntmps mo27 (Tryd.f27.body.getD .skip) = true := by kernel_rfl
theorem eq27 (a0 a1 : Value) (ret : Value → C) (pn : Pn) : D P mo27 lv27 pn (Tryd.f27.body.getD .skip) (finQ P Tryd.f27.results ret) (env0 [a0, a1]) = S27 a0 a1 ret pn := by kernel_rfl
theorem c27 {a0 a1 : Value} {R : Ending → World → Prop} {w : World} (h : S27 a0 a1 (fun v w => R (.returned v) w) (fun c w => R (.panicked c) w) w) : Calls P 27 #[a0, a1] w R :=
  callsD mixed mo27 lv27 Tryd.func27 rfl (Nat.le_of_ble_eq_true rfl) ok27 ((congrFun (eq27 a0 a1 _ _) w).mpr h)
theorem en27 (args : Array Value) (w : World) : (callFunc 27 args).run P w = .ok (.enter 27 args) w := by kernel_rfl

/-! ### (*evenhand / tier.Manager).gone -/
def S28 (a0 a1 : Value) (ret : Value → C) (pn : Pn) : C :=
 nextS P (nilN a0) (fun x5_1 =>
 nextS P (V (Instr.fieldAt 60 x5_1 5)) (fun x6_2 =>
 nextS P (V (Instr.loadAt 57 x6_2)) (fun x7_3 =>
 nextS P (bltN .delete #[57, 3] 0 #[false, false] #[x7_3, a1]) (fun _ =>
 callS P 29 #[a0, (Value.int IntKind.i64 4), a1] (fun x11_5 =>
 ret (.tuple #[])) pn) pn) pn) pn) pn
def mo28 : Nat → Mo := fun _ => .done
def lv28 : Nat → List Nat := fun _ => []
theorem ok28 : okC Tryd.f28.ntmps mo28 (Tryd.f28.body.getD .skip) = true := by kernel_rfl
theorem eq28 (a0 a1 : Value) (ret : Value → C) (pn : Pn) : D P mo28 lv28 pn (Tryd.f28.body.getD .skip) (finQ P Tryd.f28.results ret) (env0 [a0, a1]) = S28 a0 a1 ret pn := by kernel_rfl
theorem c28 {a0 a1 : Value} {R : Ending → World → Prop} {w : World} (h : S28 a0 a1 (fun v w => R (.returned v) w) (fun c w => R (.panicked c) w) w) : Calls P 28 #[a0, a1] w R :=
  callsD mixed mo28 lv28 Tryd.func28 rfl (Nat.le_of_ble_eq_true rfl) ok28 ((congrFun (eq28 a0 a1 _ _) w).mpr h)
theorem en28 (args : Array Value) (w : World) : (callFunc 28 args).run P w = .ok (.enter 28 args) w := by kernel_rfl

/-! ### (*evenhand / tier.Manager).note -/
def S29 (a0 a1 a2 : Value) (ret : Value → C) (pn : Pn) : C :=
 nextS P (nilN a0) (fun x8_1 =>
 nextS P (V (Instr.fieldAt 60 x8_1 6)) (fun x9_2 =>
 nextS P (V (Instr.loadAt 40 x9_2)) (fun x10_3 =>
 nextS P (V (Instr.build 44 #[(0, a1), (1, a2)])) (fun x13_4 =>
 nextS P (V (Instr.buildSlice 40 1 #[(0, x13_4)])) (fun x14_5 =>
 nextS P (bltN .append #[40, 40] 40 #[false, false] #[x10_3, x14_5]) (fun x15_6 =>
 nextS P (nilN a0) (fun x16_7 =>
 nextS P (V (Instr.fieldAt 60 x16_7 6)) (fun x17_8 =>
 nextS P (U (Instr.storeAt 40 x17_8 x15_6)) (fun _ =>
 ret (.tuple #[])) pn) pn) pn) pn) pn) pn) pn) pn) pn
def mo29 : Nat → Mo := fun _ => .done
def lv29 : Nat → List Nat := fun _ => []
theorem ok29 : okC Tryd.f29.ntmps mo29 (Tryd.f29.body.getD .skip) = true := by kernel_rfl
theorem eq29 (a0 a1 a2 : Value) (ret : Value → C) (pn : Pn) : D P mo29 lv29 pn (Tryd.f29.body.getD .skip) (finQ P Tryd.f29.results ret) (env0 [a0, a1, a2]) = S29 a0 a1 a2 ret pn := by kernel_rfl
theorem c29 {a0 a1 a2 : Value} {R : Ending → World → Prop} {w : World} (h : S29 a0 a1 a2 (fun v w => R (.returned v) w) (fun c w => R (.panicked c) w) w) : Calls P 29 #[a0, a1, a2] w R :=
  callsD mixed mo29 lv29 Tryd.func29 rfl (Nat.le_of_ble_eq_true rfl) ok29 ((congrFun (eq29 a0 a1 a2 _ _) w).mpr h)
theorem en29 (args : Array Value) (w : World) : (callFunc 29 args).run P w = .ok (.enter 29 args) w := by kernel_rfl

/-! ### slices.Clone[[]evenhand / tier.Event,evenhand / tier.Event] -/
def S30 (a0 : Value) (ret : Value → C) (pn : Pn) : C :=
 nextS P (binN .eql 40 (Operand.tmp 3) (Operand.const (Value.slice none 0 0)) a0 (Value.slice none 0 0)) (fun x4_1 =>
 condS x4_1
 (ret (Value.slice none 0 0))
 (nextS P (V (Instr.buildSlice 40 0 #[])) (fun x5_2 =>
 nextS P (bltN .append #[40, 40] 40 #[false, false] #[x5_2, a0]) (fun x7_3 =>
 ret x7_3) pn) pn)) pn
def mo30 : Nat → Mo := fun _ => .done
def lv30 : Nat → List Nat := fun _ => []
theorem ok30 : okC Tryd.f30.ntmps mo30 (Tryd.f30.body.getD .skip) = true := by kernel_rfl
theorem eq30 (a0 : Value) (ret : Value → C) (pn : Pn) : D P mo30 lv30 pn (Tryd.f30.body.getD .skip) (finQ P Tryd.f30.results ret) (env0 [a0]) = S30 a0 ret pn := by kernel_rfl
theorem c30 {a0 : Value} {R : Ending → World → Prop} {w : World} (h : S30 a0 (fun v w => R (.returned v) w) (fun c w => R (.panicked c) w) w) : Calls P 30 #[a0] w R :=
  callsD mixed mo30 lv30 Tryd.func30 rfl (Nat.le_of_ble_eq_true rfl) ok30 ((congrFun (eq30 a0 _ _) w).mpr h)
theorem en30 (args : Array Value) (w : World) : (callFunc 30 args).run P w = .ok (.enter 30 args) w := by kernel_rfl

/-! ### (*strings.Builder).WriteString -/
def S31 (a0 a1 : Value) (ret : Value → C) (pn : Pn) : C :=
 callS P 42 #[a0] (fun x7_1 =>
 nextS P (nilN a0) (fun x10_2 =>
 nextS P (V (Instr.fieldAt 82 x10_2 1)) (fun x11_3 =>
 nextS P (V (Instr.loadAt 80 x11_3)) (fun x12_4 =>
 nextS P (bltN .append #[80, 9] 80 #[false, false] #[x12_4, a1]) (fun x14_5 =>
 nextS P (nilN a0) (fun x15_6 =>
 nextS P (V (Instr.fieldAt 82 x15_6 1)) (fun x16_7 =>
 nextS P (U (Instr.storeAt 80 x16_7 x14_5)) (fun _ =>
 nextS P (bltN .len #[9] 3 #[false] #[a1]) (fun x18_9 =>
 ret (.tuple #[x18_9, Value.nilIface])) pn) pn) pn) pn) pn) pn) pn) pn) pn
def mo31 : Nat → Mo := fun _ => .done
def lv31 : Nat → List Nat := fun _ => []
theorem ok31 : okC Tryd.f31.ntmps mo31 (Tryd.f31.body.getD .skip) = true := by kernel_rfl
theorem eq31 (a0 a1 : Value) (ret : Value → C) (pn : Pn) : D P mo31 lv31 pn (Tryd.f31.body.getD .skip) (finQ P Tryd.f31.results ret) (env0 [a0, a1]) = S31 a0 a1 ret pn := by kernel_rfl
theorem c31 {a0 a1 : Value} {R : Ending → World → Prop} {w : World} (h : S31 a0 a1 (fun v w => R (.returned v) w) (fun c w => R (.panicked c) w) w) : Calls P 31 #[a0, a1] w R :=
  callsD mixed mo31 lv31 Tryd.func31 rfl (Nat.le_of_ble_eq_true rfl) ok31 ((congrFun (eq31 a0 a1 _ _) w).mpr h)
theorem en31 (args : Array Value) (w : World) : (callFunc 31 args).run P w = .ok (.enter 31 args) w := by kernel_rfl

end Go.Proofs.YtkonigmefmgepaaDoor
