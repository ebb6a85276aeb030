/- Contracts: the document's numbers (own work). -/
import Derived.Test.YtkonigmefmgepaaGreatDoorWa
import Derived.Test.YtkonigmefmgepaaGreatDoorL0
import Derived.Test.YtkonigmefmgepaaGreatDoorU
namespace Go.Proofs.YtkonigmefmgepaaGreatDoor
open Go.RowKit
set_option linter.unusedVariables false
set_option linter.unusedSimpArgs false

abbrev UB (b : BitVec 64) : Value := .int .u64 (b.toNat : Int)
abbrev bvI (n : Int) : BitVec 64 := BitVec.ofInt 64 n

section
variable {T : TypeId} {x y : Operand} {a b : BitVec 64} {K : Value → C} {pn : Pn}
theorem ofI_nat (b : BitVec 64) : bvI (b.toNat : Int) = b := by simp [bvI]
theorem wrU (b : BitVec 64) : IntKind.u64.wrap (b.toNat : Int) = (b.toNat : Int) := by rw [U.wrapU]; rw [show BitVec.ofInt 64 (b.toNat : Int) = b from ofI_nat b]
theorem e_xorU : nextS P (binN .xor T x y (UB a) (UB b)) K pn = K (UB (a ^^^ b)) := nx_val fun w => by
  have h : (binN .xor T x y (UB a) (UB b)).run P w = .ok (.value (.int .u64 (IntKind.u64.wrap (BitVec.ofInt IntKind.u64.bits a.toNat ^^^ BitVec.ofInt IntKind.u64.bits b.toNat).toNat))) w := by simp [binN, eqGuard, binOp, Op.intBits]
  rw [h, show BitVec.ofInt IntKind.u64.bits a.toNat = a from ofI_nat a, show BitVec.ofInt IntKind.u64.bits b.toNat = b from ofI_nat b]
  show Result.ok (Next.value (.int .u64 (IntKind.u64.wrap ((a ^^^ b).toNat : Int)))) w = _
  rw [wrU]
theorem e_andU : nextS P (binN .and T x y (UB a) (UB b)) K pn = K (UB (a &&& b)) := nx_val fun w => by
  rw [pv_and, show BitVec.ofInt IntKind.u64.bits a.toNat = a from ofI_nat a, show BitVec.ofInt IntKind.u64.bits b.toNat = b from ofI_nat b]
  show Result.ok (Next.value (.int .u64 (IntKind.u64.wrap ((a &&& b).toNat : Int)))) w = _
  rw [wrU]
theorem e_orU : nextS P (binN .or T x y (UB a) (UB b)) K pn = K (UB (a ||| b)) := nx_val fun w => by
  rw [pv_or, show BitVec.ofInt IntKind.u64.bits a.toNat = a from ofI_nat a, show BitVec.ofInt IntKind.u64.bits b.toNat = b from ofI_nat b]
  show Result.ok (Next.value (.int .u64 (IntKind.u64.wrap ((a ||| b).toNat : Int)))) w = _
  rw [wrU]
theorem e_subU : nextS P (binN .sub T x y (UB a) (UB b)) K pn = K (UB (a - b)) := nx_val fun w => by
  rw [pv_sub, U.wrapU]
  congr 3
  rw [show BitVec.ofInt 64 ((a.toNat : Int) - b.toNat) = a - b from by apply BitVec.eq_of_toNat_eq; rw [BitVec.toNat_ofInt, BitVec.toNat_sub]; omega]
theorem wrSub : IntKind.u64.wrap ((a.toNat : Int) - (b.toNat : Int)) = ((a - b).toNat : Int) := by
  rw [U.wrapU, show BitVec.ofInt 64 ((a.toNat : Int) - b.toNat) = a - b from by apply BitVec.eq_of_toNat_eq; rw [BitVec.toNat_ofInt, BitVec.toNat_sub]; omega]
theorem e_shlU {k : IntKind} {n : Nat} (hn : n ≤ 64) : nextS P (binN .shl T x y (UB a) (.int k n)) K pn = K (UB (a <<< n)) := nx_val fun w => by
  have h : (binN .shl T x y (UB a) (.int k n)).run P w = .ok (.value (.int .u64 (IntKind.u64.wrap ((a.toNat : Int) * 2 ^ (min n 64))))) w := by
    simp [binN, eqGuard, binOp, Op.shift, IntKind.bits]
    intro h; omega
  rw [h, U.wrapU, Nat.min_eq_left hn]
  congr 3
  rw [show BitVec.ofInt 64 ((a.toNat : Int) * 2 ^ n) = a <<< n from by
    apply BitVec.eq_of_toNat_eq
    rw [BitVec.toNat_ofInt, BitVec.toNat_shiftLeft, Nat.shiftLeft_eq, show ((a.toNat : Int) * 2 ^ n) = ((a.toNat * 2 ^ n : Nat) : Int) by simp]
    omega]
theorem e_shrU {k : IntKind} {n : Nat} (hn : n ≤ 64) : nextS P (binN .shr T x y (UB a) (.int k n)) K pn = K (UB (a >>> n)) := nx_val fun w => by
  have h : (binN .shr T x y (UB a) (.int k n)).run P w = .ok (.value (.int .u64 ((a.toNat : Int).fdiv (2 ^ (min n 64))))) w := by
    simp [binN, eqGuard, binOp, Op.shift, IntKind.bits]
    intro h; omega
  rw [h, Nat.min_eq_left hn]
  congr 3
  rw [BitVec.toNat_ushiftRight, Nat.shiftRight_eq_div_pow, Int.fdiv_eq_ediv_of_nonneg _ (by have : (0 : Int) < 2 ^ n := Int.pow_pos (by omega); omega)]
  simp
theorem e_eqlU : nextS P (binN .eql T x y (UB a) (UB b)) K pn = K (.bool (decide (a = b))) := nx_val fun w => by
  rw [pv_eql]
  congr 3
  rw [Bool.eq_iff_iff]
  simp only [beq_iff_eq, decide_eq_true_eq]
  exact Int.ofNat_inj.trans BitVec.toNat_inj
theorem e_lssU : nextS P (binN .lss T x y (UB a) (UB b)) K pn = K (.bool (decide (a.toNat < b.toNat))) := nx_val fun w => by
  rw [pv_lss]
  congr 3
  simp
theorem e_geqU : nextS P (binN .geq T x y (UB a) (UB b)) K pn = K (.bool (decide (b.toNat ≤ a.toNat))) := nx_val fun w => by
  rw [pv_geq]
  congr 3
  simp
theorem e_notU : nextS P (V (Op.unary .xor (UB a))) K pn = K (UB (~~~a)) := nx_val fun w => by
  have h : (V (Op.unary .xor (UB a))).run P w = .ok (.value (.int .u64 (IntKind.u64.wrap (BitVec.ofInt IntKind.u64.bits IntKind.u64.max ^^^ BitVec.ofInt IntKind.u64.bits a.toNat).toNat))) w := rfl
  rw [h, show BitVec.ofInt IntKind.u64.bits a.toNat = a from ofI_nat a, show BitVec.ofInt IntKind.u64.bits IntKind.u64.max = BitVec.allOnes 64 from rfl]
  show Result.ok (Next.value (.int .u64 (IntKind.u64.wrap ((BitVec.allOnes 64 ^^^ a).toNat : Int)))) w = _
  rw [BitVec.allOnes_xor, wrU]
theorem pv_conv {s d : TypeId} {k k' : IntKind} {n : Int} {w : World} (hs : P.underlying s = some (.int k')) (hd : P.underlying d = some (.int k)) : (V (convert s d (.int k' n))).run P w = .ok (.value (.int k (k.wrap n))) w := by
  simp [V, convert, run_underlying hs, run_underlying hd, Conv.intToInt]
theorem e_toU {n : Int} : nextS P (V (convert 2 152 (IV n))) K pn = K (UB (bvI n)) := nx_val fun w => by rw [pv_conv un2 un152, U.wrapU]
theorem e_toI : nextS P (V (convert 152 2 (UB a))) K pn = K (IV a.toInt) := nx_val fun w => by rw [pv_conv un152 un2, U.wrapI, show BitVec.ofInt 64 (a.toNat : Int) = a from ofI_nat a]
theorem e_toS {n : Nat} (h : n ≤ 64) : nextS P (V (convert 3 174 (IV n))) K pn = K (.int .u64 n) := nx_val fun w => by
  rw [pv_conv un3 un174, U.wrapU]
  congr 3
  simp
  omega
end

section
variable {W0 : World} {l : List As} {K : Value → C} {pn : Pn}

theorem plus_c {a b : BitVec 64} (h : Run W0 l (K (UB (a + b)))) : Run W0 l (callS P 80 #[UB a, UB b] K pn) := by
  refine r80 ?_
  unfold S80
  refine run_loop (Inv := fun s : Nat × BitVec 64 × BitVec 64 => s.1 ≤ 64 ∧ s.2.1 + s.2.2 = a + b ∧ ∀ j, j < s.1 → s.2.2.getLsbD j = false) (J := fun s => [UB s.2.1, UB s.2.2, IV s.1]) (H := fun _ => l) (μ := fun s => 64 - s.1) (0, a, b) ⟨by omega, rfl, fun j hj => absurd hj (by simp)⟩ rfl (fun _ hw => hw) ?_
  rintro ⟨s, x, y⟩ e ⟨hs, hq, hj⟩ he
  simp only [List.map_cons, List.map_nil, List.cons.injEq, and_true] at he hs hq hj
  obtain ⟨e0, e1, e5⟩ := he
  unfold S80_l1
  simp only [e0, e1, e5]
  rw [e_lss]
  by_cases hlt : s < 64
  · rw [dec_t (show (s : Int) < 64 by omega)]
    try simp only [pureE, pureT, Nat.zero_add, Nat.reduceAdd, Bool.not_false, Bool.not_true]
    rw [e_andU, e_xorU, show Value.int IntKind.u64 1 = .int .u64 ((1 : Nat) : Int) from rfl, e_shlU (by omega)]
    try simp only [pureE, pureT, Nat.zero_add, Nat.reduceAdd, Bool.not_false, Bool.not_true]
    rw [wrN (x := (s : Int) + 1) (s + 1) (by omega) (by omega)]
    exact fun w hw => ⟨(s + 1, x ^^^ y, (x &&& y) <<< 1), by simp only; omega, ⟨by simp only; omega, by simp only; rw [U.bv_add, hq], U.low_step hj⟩, rfl, hw⟩
  · rw [dec_f (show ¬ (s : Int) < 64 by omega)]
    try simp only [pureE, pureT, Nat.zero_add, Nat.reduceAdd, Bool.not_false, Bool.not_true]
    have hy : y = 0#64 := U.low_all fun j hj' => hj j (by omega)
    rw [hy, BitVec.add_zero] at hq
    rw [hq]
    exact h

theorem minus_c {a b : BitVec 64} (h : Run W0 l (K (UB (a - b)))) : Run W0 l (callS P 78 #[UB a, UB b] K pn) := by
  refine r78 ?_
  unfold S78
  rw [e_notU, show Value.int IntKind.u64 1 = UB 1#64 from rfl]
  refine plus_c ?_
  refine plus_c ?_
  rw [← BitVec.neg_eq_not_add, ← BitVec.sub_eq_add_neg]
  exact h

theorem times_c {a b : BitVec 64} (h : Run W0 l (K (UB (a * b)))) : Run W0 l (callS P 81 #[UB a, UB b] K pn) := by
  refine r81 ?_
  unfold S81
  refine run_loop (Inv := fun s : Nat × BitVec 64 => s.1 ≤ 64 ∧ s.2 = a * BitVec.ofNat 64 (b.toNat % 2 ^ s.1)) (J := fun s => [UB a, UB b, UB s.2, IV s.1]) (H := fun _ => l) (μ := fun s => 64 - s.1) (0, 0#64) ⟨by omega, by simp [Nat.mod_one]⟩ rfl (fun _ hw => hw) ?_
  rintro ⟨s, n⟩ e ⟨hs, hq⟩ he
  simp only [List.map_cons, List.map_nil, List.cons.injEq, and_true] at he hs hq
  obtain ⟨e0, e1, e5, e6⟩ := he
  unfold S81_l1
  simp only [e0, e1, e5, e6]
  rw [e_lss]
  have hst := U.times_step a b n s hq
  by_cases hlt : s < 64
  · rw [dec_t (show (s : Int) < 64 by omega)]
    try simp only [pureE, pureT, Nat.zero_add, Nat.reduceAdd, Bool.not_false, Bool.not_true]
    rw [e_toS (by omega), e_shrU (by omega), show Value.int IntKind.u64 1 = UB 1#64 from rfl, e_andU, e_eqlU]
    have next : ∀ n', n' = a * BitVec.ofNat 64 (b.toNat % 2 ^ (s + 1)) → Run W0 l (S81_k2 (fun vs' w' => ∃ s' : Nat × BitVec 64, 64 - s'.1 < 64 - s ∧ (s'.1 ≤ 64 ∧ s'.2 = a * BitVec.ofNat 64 (b.toNat % 2 ^ s'.1)) ∧ [UB a, UB b, UB s'.2, IV s'.1] = vs' ∧ St W0 l w') K pn (UB a) (UB b) (UB n') (IV s)) := by
      intro n' hn'
      unfold S81_k2
      rw [e_add, wrN (x := (s : Int) + 1) (s + 1) (by omega) (by omega)]
      exact fun w hw => ⟨(s + 1, n'), by simp only; omega, ⟨by simp only; omega, hn'⟩, rfl, hw⟩
    by_cases h1 : (b >>> s) &&& 1#64 = 1#64
    · rw [decide_eq_true h1]
      rw [if_pos h1] at hst
      try simp only [pureE, pureT, Nat.zero_add, Nat.reduceAdd, Bool.not_false, Bool.not_true]
      rw [e_toS (by omega), e_shlU (by omega)]
      refine plus_c ?_
      exact next _ hst
    · rw [decide_eq_false h1]
      rw [if_neg h1] at hst
      try simp only [pureE, pureT, Nat.zero_add, Nat.reduceAdd, Bool.not_false, Bool.not_true]
      exact next _ hst
  · rw [dec_f (show ¬ (s : Int) < 64 by omega)]
    try simp only [pureE, pureT, Nat.zero_add, Nat.reduceAdd, Bool.not_false, Bool.not_true]
    rw [show s = 64 by omega, Nat.mod_eq_of_lt b.isLt, BitVec.ofNat_toNat, BitVec.setWidth_eq] at hq
    rw [hq]
    exact h

theorem parted_c {a b : BitVec 64} (hb : b ≠ 0#64) (h : Run W0 l (K (.tuple #[UB (a / b), UB (a % b)]))) : Run W0 l (callS P 83 #[UB a, UB b] K pn) := by
  refine r83 ?_
  unfold S83
  have hb0 : 0 < b.toNat := by
    rcases Nat.eq_zero_or_pos b.toNat with h0 | h0
    · exact absurd (BitVec.eq_of_toNat_eq (by rw [h0]; rfl)) hb
    · exact h0
  refine run_loop (Inv := fun s : Nat × BitVec 64 × BitVec 64 => s.1 ≤ 64 ∧ s.2.1.toNat = a.toNat / 2 ^ (64 - s.1) / b.toNat ∧ s.2.2.toNat = a.toNat / 2 ^ (64 - s.1) % b.toNat) (J := fun s => [UB a, UB b, UB s.2.1, UB s.2.2, IV (63 - (s.1 : Int))]) (H := fun _ => l) (μ := fun s => 64 - s.1) (0, 0#64, 0#64) ⟨by omega, ?_, ?_⟩ rfl (fun _ hw => hw) ?_
  · show 0 = a.toNat / 2 ^ 64 / b.toNat
    rw [Nat.div_eq_of_lt a.isLt, Nat.zero_div]
  · show 0 = a.toNat / 2 ^ 64 % b.toNat
    rw [Nat.div_eq_of_lt a.isLt, Nat.zero_mod]
  rintro ⟨s, n, r⟩ e ⟨hs, hn, hr⟩ he
  simp only [List.map_cons, List.map_nil, List.cons.injEq, and_true] at he hs hn hr
  obtain ⟨e0, e1, e6, e7, e8⟩ := he
  unfold S83_l1
  simp only [e0, e1, e6, e7, e8]
  rw [e_geq]
  by_cases hlt : s < 64
  · rw [dec_t (show (0 : Int) ≤ 63 - (s : Int) by omega)]
    try simp only [pureE, pureT, Nat.zero_add, Nat.reduceAdd, Bool.not_false, Bool.not_true]
    have hA : a.toNat / 2 ^ (64 - (s + 1)) = 2 * (a.toNat / 2 ^ (64 - s)) + a.toNat / 2 ^ (63 - s) % 2 := by
      rw [show 64 - (s + 1) = 63 - s by omega, show 64 - s = (63 - s) + 1 by omega, Nat.pow_succ, ← Nat.div_div_eq_div_mul]
      omega
    have hbit : a.toNat / 2 ^ (63 - s) % 2 ≤ 1 := by omega
    have hd := U.div_step (A := a.toNat / 2 ^ (64 - s)) hb0 hbit
    rw [← hA, ← hn, ← hr] at hd
    have hbl := U.bit_one a (63 - s)
    have hrb : r.toNat < b.toNat := by rw [hr]; exact Nat.mod_lt _ hb0
    have hnb : n.toNat * 2 + 1 < 2 ^ 64 := by
      have h1 : n.toNat ≤ a.toNat / 2 ^ (64 - s) := by rw [hn]; exact Nat.div_le_self _ _
      have h2 : 2 ^ 1 ≤ 2 ^ (64 - s) := Nat.pow_le_pow_right (by omega) (by omega)
      have h3 := Nat.div_le_div_left (a := a.toNat) h2 (by omega)
      have h4 := a.isLt
      omega
    have hbL := b.isLt
    rw [show (63 - (s : Int)) = ((63 - s : Nat) : Int) by omega]
    rw [show Value.int IntKind.u64 63 = .int .u64 ((63 : Nat) : Int) from rfl, e_shrU (by omega), show Value.int IntKind.u64 1 = UB 1#64 from rfl, e_eqlU]
    rw [show UB 1#64 = .int .u64 ((1 : Nat) : Int) from rfl, e_shlU (by omega), e_toS (by omega), e_shrU (by omega), show Value.int IntKind.u64 ((1 : Nat) : Int) = UB 1#64 from rfl, e_andU, e_orU]
    rw [show UB 1#64 = .int .u64 ((1 : Nat) : Int) from rfl, e_shlU (by omega), show Value.int IntKind.u64 ((1 : Nat) : Int) = UB 1#64 from rfl]
    have hL := U.or_bit (x := r) (y := (a >>> (63 - s)) &&& 1#64) (by rw [hbl]; exact hbit)
    rw [hbl] at hL
    have hhi : (r >>> 63 = 1#64) ↔ 2 ^ 63 ≤ r.toNat := by
      rw [← BitVec.toNat_inj, BitVec.toNat_ushiftRight, Nat.shiftRight_eq_div_pow]
      have := r.isLt
      simp only [BitVec.toNat_ofNat]
      omega
    have next : ∀ n' r', n'.toNat = a.toNat / 2 ^ (64 - (s + 1)) / b.toNat → r'.toNat = a.toNat / 2 ^ (64 - (s + 1)) % b.toNat → Run W0 l (S83_k2 (fun vs' w' => ∃ s' : Nat × BitVec 64 × BitVec 64, 64 - s'.1 < 64 - s ∧ (s'.1 ≤ 64 ∧ s'.2.1.toNat = a.toNat / 2 ^ (64 - s'.1) / b.toNat ∧ s'.2.2.toNat = a.toNat / 2 ^ (64 - s'.1) % b.toNat) ∧ [UB a, UB b, UB s'.2.1, UB s'.2.2, IV (63 - (s'.1 : Int))] = vs' ∧ St W0 l w') K pn (UB a) (UB b) (UB n') (UB r') (IV ((63 - s : Nat) : Int))) := by
      intro n' r' h1 h2
      unfold S83_k2
      rw [e_sub, wr_in (by omega), show ((63 - s : Nat) : Int) - 1 = 63 - ((s + 1 : Nat) : Int) by omega]
      exact fun w hw => ⟨(s + 1, n', r'), by simp only; omega, ⟨by simp only; omega, h1, h2⟩, rfl, hw⟩
    generalize hleft : (r <<< 1) ||| ((a >>> (63 - s)) &&& 1#64) = lf at *
    generalize a.toNat / 2 ^ (63 - s) % 2 = bit at *
    have hsub : ∀ (_ : b.toNat ≤ 2 * r.toNat + bit), (lf - b).toNat = 2 * r.toNat + bit - b.toNat := by
      intro h1
      rw [BitVec.toNat_sub, hL]
      omega
    have hn1 : ((n <<< 1) ||| 1#64).toNat = 2 * n.toNat + 1 := by
      rw [U.or_bit (by simp)]
      simp only [BitVec.toNat_ofNat]
      omega
    have hn0 : (n <<< 1).toNat = 2 * n.toNat := by
      rw [BitVec.toNat_shiftLeft, Nat.shiftLeft_eq]
      omega
    by_cases hh : r >>> 63 = 1#64
    · rw [decide_eq_true hh]
      try simp only [pureE, pureT, Nat.zero_add, Nat.reduceAdd, Bool.not_false, Bool.not_true]
      rw [wrSub, e_orU]
      have hge : b.toNat ≤ 2 * r.toNat + bit := by have := hhi.1 hh; omega
      rw [if_pos hge, if_pos hge] at hd
      exact next _ _ (by rw [hn1, hd.1]) (by rw [hsub hge, hd.2])
    · rw [decide_eq_false hh]
      have hlo : ¬ 2 ^ 63 ≤ r.toNat := fun h => hh (hhi.2 h)
      have hL' : lf.toNat = 2 * r.toNat + bit := by rw [hL]; omega
      try simp only [pureE, pureT, Nat.zero_add, Nat.reduceAdd, Bool.not_false, Bool.not_true]
      by_cases hge : b.toNat ≤ 2 * r.toNat + bit
      · rw [dec_t (show (b.toNat : Int) ≤ (lf.toNat : Int) by omega)]
        try simp only [pureE, pureT, Nat.zero_add, Nat.reduceAdd, Bool.not_false, Bool.not_true]
        rw [wrSub, e_orU]
        rw [if_pos hge, if_pos hge] at hd
        exact next _ _ (by rw [hn1, hd.1]) (by rw [hsub hge, hd.2])
      · rw [dec_f (show ¬ (b.toNat : Int) ≤ (lf.toNat : Int) by omega)]
        try simp only [pureE, pureT, Nat.zero_add, Nat.reduceAdd, Bool.not_false, Bool.not_true]
        rw [if_neg hge, if_neg hge] at hd
        exact next _ _ (by rw [hn0, hd.1]; omega) (by rw [hL', hd.2])
  · rw [dec_f (show ¬ (0 : Int) ≤ 63 - (s : Int) by omega)]
    try simp only [pureE, pureT, Nat.zero_add, Nat.reduceAdd, Bool.not_false, Bool.not_true]
    rw [show s = 64 by omega] at hn hr
    have q1 : n = a / b := BitVec.eq_of_toNat_eq (by rw [hn, BitVec.toNat_udiv]; simp)
    have q2 : r = a % b := BitVec.eq_of_toNat_eq (by rw [hr, BitVec.toNat_umod]; simp)
    rw [q1, q2]
    exact h

theorem size_c {a : Int} (ha : -9223372036854775808 ≤ a ∧ a ≤ 9223372036854775807) (h : Run W0 l (K (.tuple #[UB (BitVec.ofNat 64 a.natAbs), .bool (decide (a < 0))]))) : Run W0 l (callS P 82 #[IV a] K pn) := by
  refine r82 ?_
  unfold S82
  rw [e_lss]
  by_cases h0 : a < 0
  · rw [dec_t h0] at h ⊢
    try simp only [pureE, pureT, Nat.zero_add, Nat.reduceAdd, Bool.not_false, Bool.not_true]
    rw [e_toU, show Value.int IntKind.u64 0 = UB 0#64 from rfl]
    refine minus_c ?_
    rw [show 0#64 - bvI a = BitVec.ofNat 64 a.natAbs from ?_]
    · exact h
    · apply BitVec.eq_of_toNat_eq
      rw [BitVec.toNat_sub, BitVec.toNat_ofNat, BitVec.toNat_ofNat, BitVec.toNat_ofInt]
      omega
  · rw [dec_f h0] at h ⊢
    try simp only [pureE, pureT, Nat.zero_add, Nat.reduceAdd, Bool.not_false, Bool.not_true]
    rw [e_toU]
    rw [show bvI a = BitVec.ofNat 64 a.natAbs from ?_]
    · exact h
    · apply BitVec.eq_of_toNat_eq
      rw [BitVec.toNat_ofNat, BitVec.toNat_ofInt]
      omega
/-- A size with a sign. -/
theorem signed_c {n : BitVec 64} {d : Bool} (h : Run W0 l (K (IV (M.w64 (if d then -(n.toNat : Int) else n.toNat))))) : Run W0 l (callS P 84 #[UB n, .bool d] K pn) := by
  refine r84 ?_
  unfold S84
  cases d
  · try simp only [pureE, pureT, Nat.zero_add, Nat.reduceAdd, Bool.not_false, Bool.not_true]
    rw [e_toI]
    simp only [Bool.false_eq_true, if_false] at h
    rw [M.w64, U.wrapI, show BitVec.ofInt 64 (n.toNat : Int) = n from ofI_nat n] at h
    exact h
  · try simp only [pureE, pureT, Nat.zero_add, Nat.reduceAdd, Bool.not_false, Bool.not_true]
    rw [show Value.int IntKind.u64 0 = UB 0#64 from rfl]
    refine minus_c ?_
    rw [e_toI]
    simp only [if_true] at h
    rw [M.w64, U.wrapI, show BitVec.ofInt 64 (-(n.toNat : Int)) = 0#64 - n from ?_] at h
    · exact h
    · rw [BitVec.ofInt_neg]
      simp
theorem one_c {b : Bool} (h : Run W0 l (K (IV (M.flag b)))) : Run W0 l (callS P 79 #[.bool b] K pn) := by
  refine r79 ?_
  unfold S79
  cases b <;> try simp only [pureE, pureT, Nat.zero_add, Nat.reduceAdd, Bool.not_false, Bool.not_true] <;> exact h
end
end Go.Proofs.YtkonigmefmgepaaGreatDoor
