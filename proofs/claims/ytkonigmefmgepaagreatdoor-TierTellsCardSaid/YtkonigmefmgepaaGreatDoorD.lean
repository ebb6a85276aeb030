/- Contracts: the document's folding: one rule, all of them (own work). -/
import Derived.Test.YtkonigmefmgepaaGreatDoorC
import Derived.Test.YtkonigmefmgepaaGreatDoorWb
namespace Go.Proofs.YtkonigmefmgepaaGreatDoor
open Go.RowKit
set_option linter.unusedVariables false
set_option linter.unusedSimpArgs false

theorem doI_eq (op a b : Int) : M.doI op a b = M.doM (M.w64 (op + 2)) a b := by
  unfold M.doI
  congr 1
  unfold M.w64 IntKind.wrap
  simp [IntKind.bits, IntKind.signed]
  omega
theorem fill75 (y : M.Ins) : Instr.fill (fun i => some (i * 3, 3)) ((Array.range (1 * 3)).map ((Value.agg #[IV 0, IV 0, IV 0]).cells[· % (Value.agg #[IV 0, IV 0, IV 0]).cells.size]!)) [(0, insA y)] = some (insV y).toArray := by kernel_rfl

section
variable {W0 : World} {l : List As} {K : Value → C} {pn : Pn}

/-- By one instruction that lies in a piece of its own. -/
theorem replacedOne_c {v : Value} {bb n at_ k : Nat} {xs : List M.Ins} {y : M.Ins} (hr : Rd W0 l 3 v n (insC xs)) (hn : n ≤ 4294967296) (h0 : 0 < k) (hfit : at_ + k ≤ n)
    (h : ∀ v', Run W0 (row 75 3 v' (M.replace at_ k [y] xs).length (insC (M.replace at_ k [y] xs)) :: l) (K v')) :
    Run W0 (pt bb 75 (insV y) :: l) (callS P 66 #[v, IV at_, IV k, .slice (some ⟨bb, 0, none⟩) 1 1] K pn) := by
  refine replacedR_c (m := 1) (by_ := [y]) (hr.mono fun _ hw => hw.tail) ?_ hn h0 hfit (by omega) fun v' => run_erase 1 (h v')
  rw [insC_one]
  exact Rd.pt (i := 0) rfl 3 (by simp [insV])
theorem replacedNone_c {v : Value} {n at_ k : Nat} {xs : List M.Ins} (hr : Rd W0 l 3 v n (insC xs)) (hn : n ≤ 4294967296) (h0 : 0 < k) (hfit : at_ + k ≤ n)
    (h : ∀ v', Run W0 (row 75 3 v' (M.replace at_ k [] xs).length (insC (M.replace at_ k [] xs)) :: l) (K v')) :
    Run W0 l (callS P 66 #[v, IV at_, IV k, .slice none 0 0] K pn) :=
  replacedR_c (m := 0) (by_ := []) hr Rd.nil hn h0 hfit (by omega) h

theorem onceR_c {v : Value} {n : Nat} {xs : List M.Ins} (hr : Rd W0 l 3 v n (insC xs)) (hn : n ≤ 4294967296) (hR : ∀ x ∈ xs, M.RI x)
    (ht : ∀ ys v', M.firstR xs xs.length 0 = some ys → Run W0 (row 75 3 v' ys.length (insC ys) :: l) (K (.tuple #[v', .bool true])))
    (hf : M.firstR xs xs.length 0 = none → Run W0 l (K (.tuple #[v, .bool false]))) : Run W0 l (callS P 58 #[v] K pn) := by
  refine r58 ?_
  unfold S58
  have hl : xs.length = n := rd_len insV_len (by omega) hr
  obtain ⟨a, c, rfl, h1, h2, h3⟩ := hr.form
  refine run_loop (Inv := fun s : Nat => s ≤ n ∧ ∀ j, j < s → M.rule j xs = none) (J := fun s => [.slice a n c, IV s]) (H := fun _ => l) (μ := fun s => n - s) 0 ⟨by omega, fun j hj => absurd hj (by omega)⟩ rfl (fun _ hw => hw) ?_
  rintro s e ⟨hs, hp⟩ he
  simp only [List.map_cons, List.map_nil, List.cons.injEq, and_true] at he
  obtain ⟨e0, e4⟩ := he
  unfold S58_l1
  simp only [e0, e4]
  try simp only [pureE, pureT, Nat.zero_add, Nat.reduceAdd, Bool.not_false, Bool.not_true]
  by_cases hlt : s < n
  case neg =>
    rw [dec_f (show ¬ (s : Int) < n by omega)]
    try simp only [pureE, pureT, Nat.zero_add, Nat.reduceAdd, Bool.not_false, Bool.not_true]
    refine hf ?_
    rw [M.firstR_skip (s := s) (by omega) hp, show xs.length - s = 0 by omega]
    rfl
  rw [dec_t (show (s : Int) < n by omega)]
  try simp only [pureE, pureT, Nat.zero_add, Nat.reduceAdd, Bool.not_false, Bool.not_true]
  obtain ⟨x, hx⟩ : ∃ x, xs[s]? = some x := ⟨_, List.getElem?_eq_getElem (by omega)⟩
  have hxR := hR x (List.mem_of_getElem? hx)
  have yes : ∀ {ys v'}, M.rule s xs = some ys → Run W0 (row 75 3 v' ys.length (insC ys) :: l) (K (.tuple #[v', .bool true])) := by
    intro ys v' hy
    refine ht ys v' ?_
    rw [M.firstR_skip (s := s) (by omega) hp]
    obtain ⟨d, hd⟩ : ∃ d, xs.length - s = d + 1 := ⟨n - s - 1, by omega⟩
    rw [hd, M.firstR, hy]
  have next : M.rule s xs = none → Run W0 l (S58_k2 (fun vs' w' => ∃ s', n - s' < n - s ∧ (s' ≤ n ∧ ∀ j, j < s' → M.rule j xs = none) ∧ [.slice a n c, IV (s' : Nat)] = vs' ∧ St W0 l w') K pn (.slice a n c) (IV s)) := by
    intro hy
    unfold S58_k2
    try simp only [pureE, pureT, Nat.zero_add, Nat.reduceAdd, Bool.not_false, Bool.not_true]
    rw [wrN (x := (s : Int) + 1) (s + 1) (by omega) (by omega)]
    refine fun w hw => ⟨s + 1, by omega, ⟨by omega, fun j hj => ?_⟩, rfl, hw⟩
    rcases Nat.lt_succ_iff_lt_or_eq.1 hj with hj | rfl
    · exact hp j hj
    · exact hy
  unfold M.rule at yes next
  simp only [hx] at yes next
  refine run_rd_idx un41 ty75 insV_len (by omega) hr s hx fun b o hc => ?_
  refine run_lda ag75 ty75 rfl hc ?_
  refine run_alloc ty75 fun b5 => ?_
  refine run_st ty75 (i := 0) rfl rfl (by simp [insV, Value.cells, Value.oneCell']) (by simp [Value.cells]) ?_
  refine run_to (pt b5 75 (insV x) :: l) (fun w hw => hw) ?_
  try simp only [pureE, pureT, Nat.zero_add, Nat.reduceAdd, Bool.not_false, Bool.not_true]
  refine run_ld sc3 (cl1 (i := 0) rfl rfl) ?_
  try simp only [pureE, pureT, Nat.zero_add, Nat.reduceAdd, Bool.not_false, Bool.not_true]
  cases h15 : x.op == 15
  case true =>
    simp only [h15, Bool.true_and] at yes next
    have hop : x.op = 15 := by simpa using h15
    try simp only [pureE, pureT, Nat.zero_add, Nat.reduceAdd, Bool.not_false, Bool.not_true]
    refine run_ld sc3 (cl1 (i := 0) rfl rfl) ?_
    try simp only [pureE, pureT, Nat.zero_add, Nat.reduceAdd, Bool.not_false, Bool.not_true]
    rw [wrN (x := (s : Int) + 1) (s + 1) (by omega) (by omega)]
    cases hj : x.a == ((s + 1 : Nat) : Int)
    · simp only [hj, Bool.false_eq_true, if_false, show (x.op == 1) = false from by rw [hop]; rfl, Bool.false_and] at next
      try simp only [pureE, pureT, Nat.zero_add, Nat.reduceAdd, Bool.not_false, Bool.not_true]
      refine run_ld sc3 (cl1 (i := 0) rfl rfl) ?_
      try simp only [pureE, pureT, Nat.zero_add, Nat.reduceAdd, Bool.not_false, Bool.not_true]
      rw [show (x.op != 1) = true from by rw [hop]; rfl]
      try simp only [pureE, pureT, Nat.zero_add, Nat.reduceAdd, Bool.not_false, Bool.not_true]
      exact run_drop (next trivial)
    · simp only [hj, if_true] at yes
      try simp only [pureE, pureT, Nat.zero_add, Nat.reduceAdd, Bool.not_false, Bool.not_true]
      refine run_drop ?_
      exact replacedNone_c (k := 1) hr hn (by omega) (by omega) fun v' => yes rfl
  simp only [h15, Bool.false_and, Bool.false_eq_true, if_false] at yes next
  try simp only [pureE, pureT, Nat.zero_add, Nat.reduceAdd, Bool.not_false, Bool.not_true]
  refine run_ld sc3 (cl1 (i := 0) rfl rfl) ?_
  try simp only [pureE, pureT, Nat.zero_add, Nat.reduceAdd, Bool.not_false, Bool.not_true]
  cases hx1 : x.op == 1
  case false =>
    rw [show (x.op != 1) = true from by simp [bne, hx1]]
    simp only [hx1, Bool.false_and, Bool.false_eq_true, if_false] at next
    try simp only [pureE, pureT, Nat.zero_add, Nat.reduceAdd, Bool.not_false, Bool.not_true]
    exact run_drop (next trivial)
  rw [show (x.op != 1) = false from by simp [bne, hx1]]
  simp only [hx1, Bool.true_and] at yes next
  try simp only [pureE, pureT, Nat.zero_add, Nat.reduceAdd, Bool.not_false, Bool.not_true]
  rw [wrN (x := (s : Int) + 1) (s + 1) (by omega) (by omega)]
  by_cases hl1 : s + 1 < n
  case neg =>
    rw [dec_t (show (n : Int) ≤ ((s + 1 : Nat) : Int) by omega)]
    try simp only [pureE, pureT, Nat.zero_add, Nat.reduceAdd, Bool.not_false, Bool.not_true]
    refine run_drop (next ?_)
    rw [show M.free (s + 1) xs = false from by unfold M.free; rw [decide_eq_false (show ¬ s + 1 < xs.length by omega)]; rfl]
    rfl
  rw [dec_f (show ¬ (n : Int) ≤ ((s + 1 : Nat) : Int) by omega)]
  try simp only [pureE, pureT, Nat.zero_add, Nat.reduceAdd, Bool.not_false, Bool.not_true]
  refine target_c (at_ := s + 1) (hr.mono fun _ hw => hw.tail) hn ?_
  have hfree : M.free (s + 1) xs = !xs.any (hits ((s + 1 : Nat) : Int)) := by
    unfold M.free
    rw [decide_eq_true (show s + 1 < xs.length by omega)]
    rfl
  rw [hfree] at yes next
  cases hany : xs.any (hits ((s + 1 : Nat) : Int))
  case true =>
    try simp only [pureE, pureT, Nat.zero_add, Nat.reduceAdd, Bool.not_false, Bool.not_true]
    refine run_drop (next ?_)
    rw [hany]
    rfl
  rw [hany] at yes next
  simp only [Bool.not_false, if_true] at yes next
  obtain ⟨y, hy⟩ : ∃ y, xs[s + 1]? = some y := ⟨_, List.getElem?_eq_getElem (by omega)⟩
  have hyR := hR y (List.mem_of_getElem? hy)
  simp only [hy] at yes next
  try simp only [pureE, pureT, Nat.zero_add, Nat.reduceAdd, Bool.not_false, Bool.not_true]
  refine run_rd_idx un41 ty75 insV_len (by omega) (hr.mono fun _ hw => St.tail (A := pt b5 75 (insV x)) hw) (s + 1) hy fun b2 o2 hc2 => ?_
  refine run_lda ag75 ty75 rfl hc2 ?_
  refine run_alloc ty75 fun b7 => ?_
  refine run_st ty75 (i := 0) rfl rfl (by simp [insV, Value.cells, Value.oneCell']) (by simp [Value.cells]) ?_
  refine run_to (pt b7 75 (insV y) :: pt b5 75 (insV x) :: l) (fun w hw => hw) ?_
  try simp only [pureE, pureT, Nat.zero_add, Nat.reduceAdd, Bool.not_false, Bool.not_true]
  refine run_ld sc3 (cl1 (i := 0) rfl rfl) ?_
  try simp only [pureE, pureT, Nat.zero_add, Nat.reduceAdd, Bool.not_false, Bool.not_true]
  unfold M.behind at yes next
  have hr2 : Rd W0 (pt b7 75 (insV y) :: pt b5 75 (insV x) :: l) 3 (.slice a n c) n (insC xs) := hr.mono fun _ hw => hw.tail.tail
  have two : ∀ {ys : List M.Ins} {v' : Value} {c : C}, Run W0 (row 75 3 v' ys.length (insC ys) :: l) c → Run W0 (row 75 3 v' ys.length (insC ys) :: pt b7 75 (insV y) :: pt b5 75 (insV x) :: l) c := fun h => run_erase 1 (run_erase 1 h)
  cases h45 : y.op == 4 || y.op == 5
  case true =>
    simp only [h45, if_true] at yes
    have go : Run W0 (pt b7 75 (insV y) :: pt b5 75 (insV x) :: l)
      (nextS P (V (Instr.loadAt 3 (Ptr b7))) (fun x66 => nextS P (binN .add 3 (Operand.tmp 66) (Operand.const (Value.int IntKind.i64 2)) x66 (Value.int IntKind.i64 2)) (fun x67 => nextS P (V (Instr.loadAt 2 (.pointer (some ⟨b5, 2, none⟩)))) (fun x69 => callS P 68 #[x67, x69, IV 0] (fun x70 => nextS P (V (Instr.extract x70 0)) (fun x71 => nextS P (V (Instr.extract x70 1)) (fun x72 => nextS P (V (Instr.build 75 #[(0, IV 1), (2, x71)])) (fun x76 => nextS P (V (Instr.buildSlice 41 1 #[(0, x76)])) (fun x77 => callS P 66 #[.slice a n c, IV s, IV 2, x77] (fun x78 => K (.tuple #[x78, .bool true])) pn) pn) pn) pn) pn) pn) pn) pn) pn) := by
      refine run_ld sc3 (cl1 (i := 0) rfl rfl) ?_
      try simp only [pureE, pureT, Nat.zero_add, Nat.reduceAdd, Bool.not_false, Bool.not_true]
      refine run_ld sc2 (cl1 (i := 1) rfl rfl) ?_
      refine doR_c hxR.2.2 ⟨by omega, by omega⟩ ?_
      try simp only [pureE, pureT, Nat.zero_add, Nat.reduceAdd, Bool.not_false, Bool.not_true]
      refine run_nx (insA ⟨1, 0, (M.doM (IntKind.i64.wrap (y.op + 2)) x.n 0).1⟩) (fun w => by kernel_rfl) ?_
      refine run_buildSlice (insV ⟨1, 0, (M.doM (IntKind.i64.wrap (y.op + 2)) x.n 0).1⟩) un41 ty75 (by omega) (by omega) (fill75 _) fun bb => ?_
      refine replacedOne_c (k := 2) hr2 hn (by omega) (by omega) fun v' => ?_
      refine two (yes ?_)
      rw [doI_eq]
      rfl
    cases h4 : y.op == 4
    · try simp only [pureE, pureT, Nat.zero_add, Nat.reduceAdd, Bool.not_false, Bool.not_true]
      refine run_ld sc3 (cl1 (i := 0) rfl rfl) ?_
      try simp only [pureE, pureT, Nat.zero_add, Nat.reduceAdd, Bool.not_false, Bool.not_true]
      rw [show (y.op == 5) = true from by simpa [h4] using h45]
      try simp only [pureE, pureT, Nat.zero_add, Nat.reduceAdd, Bool.not_false, Bool.not_true]
      exact go
    · try simp only [pureE, pureT, Nat.zero_add, Nat.reduceAdd, Bool.not_false, Bool.not_true]
      exact go
  rw [if_neg (by simp [h45])] at yes next
  have h4 : (y.op == 4) = false := (Bool.or_eq_false_iff.1 h45).1
  have h5 : (y.op == 5) = false := (Bool.or_eq_false_iff.1 h45).2
  rw [h4]
  try simp only [pureE, pureT, Nat.zero_add, Nat.reduceAdd, Bool.not_false, Bool.not_true]
  refine run_ld sc3 (cl1 (i := 0) rfl rfl) ?_
  try simp only [pureE, pureT, Nat.zero_add, Nat.reduceAdd, Bool.not_false, Bool.not_true]
  rw [h5]
  try simp only [pureE, pureT, Nat.zero_add, Nat.reduceAdd, Bool.not_false, Bool.not_true]
  refine run_ld sc3 (cl1 (i := 0) rfl rfl) ?_
  try simp only [pureE, pureT, Nat.zero_add, Nat.reduceAdd, Bool.not_false, Bool.not_true]
  cases h16 : y.op == 16
  case true =>
    simp only [h16, Bool.true_and, if_true] at yes next
    try simp only [pureE, pureT, Nat.zero_add, Nat.reduceAdd, Bool.not_false, Bool.not_true]
    refine run_ld sc2 (cl1 (i := 1) rfl rfl) ?_
    try simp only [pureE, pureT, Nat.zero_add, Nat.reduceAdd, Bool.not_false, Bool.not_true]
    cases hz : x.n == 0
    · simp only [hz, Bool.false_eq_true, if_false] at yes
      try simp only [pureE, pureT, Nat.zero_add, Nat.reduceAdd, Bool.not_false, Bool.not_true]
      exact replacedNone_c (k := 2) hr2 hn (by omega) (by omega) fun v' => two (yes rfl)
    · simp only [hz, if_true] at yes
      try simp only [pureE, pureT, Nat.zero_add, Nat.reduceAdd, Bool.not_false, Bool.not_true]
      refine run_ld sc3 (cl1 (i := 0) rfl rfl) ?_
      refine run_nx (insA ⟨15, y.a, 0⟩) (fun w => by kernel_rfl) ?_
      refine run_buildSlice (insV ⟨15, y.a, 0⟩) un41 ty75 (by omega) (by omega) (fill75 _) fun bb => ?_
      exact replacedOne_c (k := 2) hr2 hn (by omega) (by omega) fun v' => two (yes rfl)
  simp only [h16, Bool.false_and, Bool.false_eq_true, if_false] at yes next
  try simp only [pureE, pureT, Nat.zero_add, Nat.reduceAdd, Bool.not_false, Bool.not_true]
  refine run_ld sc3 (cl1 (i := 0) rfl rfl) ?_
  try simp only [pureE, pureT, Nat.zero_add, Nat.reduceAdd, Bool.not_false, Bool.not_true]
  have back : ∀ {c : C}, Run W0 l c → Run W0 (pt b7 75 (insV y) :: pt b5 75 (insV x) :: l) c := fun h => run_drop (run_drop h)
  cases hne : y.op != 1
  case true =>
    simp only [hne, Bool.true_or, if_true] at next
    try simp only [pureE, pureT, Nat.zero_add, Nat.reduceAdd, Bool.not_false, Bool.not_true]
    exact back (next trivial)
  simp only [hne, Bool.false_or] at yes next
  try simp only [pureE, pureT, Nat.zero_add, Nat.reduceAdd, Bool.not_false, Bool.not_true]
  try rw [wrN (x := (s : Int) + 2) (s + 2) (by omega) (by omega)]
  by_cases hl2 : s + 2 < n
  case neg =>
    rw [dec_t (show (n : Int) ≤ ((s + 2 : Nat) : Int) by omega)]
    try simp only [pureE, pureT, Nat.zero_add, Nat.reduceAdd, Bool.not_false, Bool.not_true]
    refine back (next ?_)
    rw [show M.free (s + 2) xs = false from by unfold M.free; rw [decide_eq_false (show ¬ s + 2 < xs.length by omega)]; rfl]
    rfl
  rw [dec_f (show ¬ (n : Int) ≤ ((s + 2 : Nat) : Int) by omega)]
  try simp only [pureE, pureT, Nat.zero_add, Nat.reduceAdd, Bool.not_false, Bool.not_true]
  obtain ⟨z, hz⟩ : ∃ z, xs[s + 2]? = some z := ⟨_, List.getElem?_eq_getElem (by omega)⟩
  simp only [hz] at yes next
  have hfree2 : M.free (s + 2) xs = !xs.any (hits ((s + 2 : Nat) : Int)) := by
    unfold M.free
    rw [decide_eq_true (show s + 2 < xs.length by omega)]
    rfl
  rw [hfree2] at yes next
  simp only [Bool.not_not] at yes next
  try rw [wrN (x := (s : Int) + 2) (s + 2) (by omega) (by omega)]
  refine run_rd_idx un41 ty75 insV_len (by omega) hr2 (s + 2) hz fun b3 o3 hc3 => ?_
  try simp only [pureE, pureT, Nat.zero_add, Nat.reduceAdd, Bool.not_false, Bool.not_true]
  refine run_ld sc3 (hc3.fld (k := 0) rfl) ?_
  try simp only [pureE, pureT, Nat.zero_add, Nat.reduceAdd, Bool.not_false, Bool.not_true]
  cases h6 : decide (z.op < 6)
  case true =>
    simp only [h6, Bool.true_or, if_true, ite_self] at next
    try simp only [pureE, pureT, Nat.zero_add, Nat.reduceAdd, Bool.not_false, Bool.not_true]
    exact back (next trivial)
  try simp only [pureE, pureT, Nat.zero_add, Nat.reduceAdd, Bool.not_false, Bool.not_true]
  try rw [wrN (x := (s : Int) + 2) (s + 2) (by omega) (by omega)]
  refine run_rd_idx un41 ty75 insV_len (by omega) hr2 (s + 2) hz fun b4 o4 hc4 => ?_
  try simp only [pureE, pureT, Nat.zero_add, Nat.reduceAdd, Bool.not_false, Bool.not_true]
  refine run_ld sc3 (hc4.fld (k := 0) rfl) ?_
  try simp only [pureE, pureT, Nat.zero_add, Nat.reduceAdd, Bool.not_false, Bool.not_true]
  cases h14 : decide (14 < z.op)
  case true =>
    simp only [h14, Bool.or_true, if_true, ite_self] at next
    try simp only [pureE, pureT, Nat.zero_add, Nat.reduceAdd, Bool.not_false, Bool.not_true]
    exact back (next trivial)
  simp only [h6, h14, Bool.or_self, Bool.false_eq_true, if_false] at yes next
  try simp only [pureE, pureT, Nat.zero_add, Nat.reduceAdd, Bool.not_false, Bool.not_true]
  try rw [wrN (x := (s : Int) + 2) (s + 2) (by omega) (by omega)]
  refine target_c (at_ := s + 2) hr2 hn ?_
  refine run_draw (pt b7 75 (insV y) :: pt b5 75 (insV x) :: l) (fun _ hw => hw) ?_
  try simp only [pureE, pureT, Nat.zero_add, Nat.reduceAdd, Bool.not_false, Bool.not_true]
  try rw [wrN (x := (s : Int) + 2) (s + 2) (by omega) (by omega)]
  refine run_rd_idxP un41 ty75 insV_len (by omega) hr2 (s + 2) hz fun b6 o6 hc6 => ?_
  try simp only [pureE, pureT, Nat.zero_add, Nat.reduceAdd, Bool.not_false, Bool.not_true]
  refine take_ld sc3 (hc6.fld (k := 0) rfl) ?_
  try simp only [pureE, pureT, Nat.zero_add, Nat.reduceAdd, Bool.not_false, Bool.not_true]
  refine take_ld sc2 (cl1 (i := 1) rfl rfl) ?_
  try simp only [pureE, pureT, Nat.zero_add, Nat.reduceAdd, Bool.not_false, Bool.not_true]
  refine take_ld sc2 (cl1 (i := 0) rfl rfl) ?_
  refine doR_c hxR.2.2 hyR.2.2 ?_
  refine run_and (fun _ hw => hw) ?_
  try simp only [pureE, pureT, Nat.zero_add, Nat.reduceAdd, Bool.not_false, Bool.not_true]
  rw [doI_eq, show M.w64 (z.op + 2) = IntKind.i64.wrap (z.op + 2) from rfl] at yes next
  cases hok : (M.doM (IntKind.i64.wrap (z.op + 2)) x.n y.n).2
  case false =>
    simp only [hok, Bool.false_eq_true, if_false, ite_self] at next
    try simp only [pureE, pureT, Nat.zero_add, Nat.reduceAdd, Bool.not_false, Bool.not_true]
    exact back (next trivial)
  simp only [hok, if_true] at yes next
  try simp only [pureE, pureT, Nat.zero_add, Nat.reduceAdd, Bool.not_false, Bool.not_true]
  cases hany2 : xs.any (hits ((s + 2 : Nat) : Int))
  case true =>
    simp only [hany2, if_true] at next
    try simp only [pureE, pureT, Nat.zero_add, Nat.reduceAdd, Bool.not_false, Bool.not_true]
    exact back (next trivial)
  simp only [hany2, Bool.false_eq_true, if_false] at yes next
  try simp only [pureE, pureT, Nat.zero_add, Nat.reduceAdd, Bool.not_false, Bool.not_true]
  refine run_nx (insA ⟨1, 0, (M.doM (IntKind.i64.wrap (z.op + 2)) x.n y.n).1⟩) (fun w => by kernel_rfl) ?_
  refine run_buildSlice (insV ⟨1, 0, (M.doM (IntKind.i64.wrap (z.op + 2)) x.n y.n).1⟩) un41 ty75 (by omega) (by omega) (fill75 _) fun bb => ?_
  exact replacedOne_c (k := 3) hr2 hn (by omega) (by omega) fun v' => two (yes rfl)

end
end Go.Proofs.YtkonigmefmgepaaGreatDoor
