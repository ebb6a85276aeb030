/- Contracts: the document's folding: a jump sought, a replacement (own work). -/
import Derived.Test.YtkonigmefmgepaaGreatDoorB
import Derived.Test.YtkonigmefmgepaaGreatDoorWa
namespace Go.Proofs.YtkonigmefmgepaaGreatDoor
open Go.RowKit
set_option linter.unusedVariables false
set_option linter.unusedSimpArgs false

section
variable {W0 : World} {l : List As} {K : Value → C} {pn : Pn}

abbrev hits (at_ : Int) (x : M.Ins) : Bool := M.jumps x && x.a == at_
theorem target_c {v : Value} {n at_ : Nat} {xs : List M.Ins} (hr : Rd W0 l 3 v n (insC xs)) (hn : n ≤ 4294967296)
    (h : Run W0 l (K (.bool (xs.any (hits at_))))) : Run W0 l (callS P 67 #[v, IV at_] K pn) := by
  refine r67 ?_
  unfold S67
  have hl : xs.length = n := rd_len insV_len (by omega) hr
  obtain ⟨a, c, rfl, h1, h2, h3⟩ := hr.form
  refine run_loop (Inv := fun s : Nat => s ≤ n ∧ (xs.take s).any (hits at_) = false) (J := fun s => [.slice a n c, IV at_, IV s]) (H := fun _ => l) (μ := fun s => n - s) 0 ⟨by omega, by simp⟩ rfl (fun _ hw => hw) ?_
  rintro s e ⟨hs, hp⟩ he
  simp only [List.map_cons, List.map_nil, List.cons.injEq, and_true] at he
  obtain ⟨e0, e1, e5⟩ := he
  unfold S67_l1
  simp only [e0, e1, e5]
  try simp only [pureE, pureT, Nat.zero_add, Nat.reduceAdd, Bool.not_false, Bool.not_true]
  by_cases hlt : s < n
  · rw [dec_t (show (s : Int) < n by omega)]
    try simp only [pureE, pureT, Nat.zero_add, Nat.reduceAdd, Bool.not_false, Bool.not_true]
    obtain ⟨x, hx⟩ : ∃ x, xs[s]? = some x := ⟨_, List.getElem?_eq_getElem (by omega)⟩
    have htk : (xs.take (s + 1)).any (hits at_) = hits at_ x := by
      rw [List.take_add_one, List.any_append, hp, hx]; simp
    have no : hits at_ x = false → Run W0 l (fun w' => ∃ s', n - s' < n - s ∧ (s' ≤ n ∧ (xs.take s').any (hits at_) = false) ∧ [.slice a n c, IV at_, IV (s' : Nat)] = [.slice a n c, IV at_, IV ((s + 1 : Nat) : Int)] ∧ St W0 l w') :=
      fun hq w hw => ⟨s + 1, by omega, ⟨by omega, by rw [htk, hq]⟩, rfl, hw⟩
    have yes : hits at_ x = true → Run W0 l (K (.bool true)) := fun hq => by
      rw [show xs.any (hits at_) = true from by rw [← List.take_append_drop (s + 1) xs, List.any_append, htk, hq]; rfl] at h
      exact h
    have hj : M.jumps x = (x.op == 15 || x.op == 16) := rfl
    refine run_rd_idx un41 ty75 insV_len (by omega) hr s hx fun b o hc => ?_
    try simp only [pureE, pureT, Nat.zero_add, Nat.reduceAdd, Bool.not_false, Bool.not_true]
    refine run_ld sc3 (hc.fld (k := 0) rfl) ?_
    try simp only [pureE, pureT, Nat.zero_add, Nat.reduceAdd, Bool.not_false, Bool.not_true]
    cases h15 : x.op == 15
    · try simp only [pureE, pureT, Nat.zero_add, Nat.reduceAdd, Bool.not_false, Bool.not_true]
      refine run_rd_idx un41 ty75 insV_len (by omega) hr s hx fun b o hc => ?_
      try simp only [pureE, pureT, Nat.zero_add, Nat.reduceAdd, Bool.not_false, Bool.not_true]
      refine run_ld sc3 (hc.fld (k := 0) rfl) ?_
      try simp only [pureE, pureT, Nat.zero_add, Nat.reduceAdd, Bool.not_false, Bool.not_true]
      cases h16 : x.op == 16
      · try simp only [pureE, pureT, Nat.zero_add, Nat.reduceAdd, Bool.not_false, Bool.not_true]
        rw [wrN (x := (s : Int) + 1) (s + 1) (by omega) (by omega)]
        exact no (by simp [hits, hj, h15, h16])
      · try simp only [pureE, pureT, Nat.zero_add, Nat.reduceAdd, Bool.not_false, Bool.not_true]
        refine run_rd_idx un41 ty75 insV_len (by omega) hr s hx fun b o hc => ?_
        try simp only [pureE, pureT, Nat.zero_add, Nat.reduceAdd, Bool.not_false, Bool.not_true]
        refine run_ld sc3 (hc.fld (k := 1) rfl) ?_
        try simp only [pureE, pureT, Nat.zero_add, Nat.reduceAdd, Bool.not_false, Bool.not_true]
        cases ha : x.a == (at_ : Int)
        · try simp only [pureE, pureT, Nat.zero_add, Nat.reduceAdd, Bool.not_false, Bool.not_true]
          rw [wrN (x := (s : Int) + 1) (s + 1) (by omega) (by omega)]
          exact no (by simp [hits, hj, h15, h16, ha])
        · try simp only [pureE, pureT, Nat.zero_add, Nat.reduceAdd, Bool.not_false, Bool.not_true]
          exact yes (by simp [hits, hj, h15, h16, ha])
    · try simp only [pureE, pureT, Nat.zero_add, Nat.reduceAdd, Bool.not_false, Bool.not_true]
      refine run_rd_idx un41 ty75 insV_len (by omega) hr s hx fun b o hc => ?_
      try simp only [pureE, pureT, Nat.zero_add, Nat.reduceAdd, Bool.not_false, Bool.not_true]
      refine run_ld sc3 (hc.fld (k := 1) rfl) ?_
      try simp only [pureE, pureT, Nat.zero_add, Nat.reduceAdd, Bool.not_false, Bool.not_true]
      cases ha : x.a == (at_ : Int)
      · try simp only [pureE, pureT, Nat.zero_add, Nat.reduceAdd, Bool.not_false, Bool.not_true]
        rw [wrN (x := (s : Int) + 1) (s + 1) (by omega) (by omega)]
        exact no (by simp [hits, hj, h15, ha])
      · try simp only [pureE, pureT, Nat.zero_add, Nat.reduceAdd, Bool.not_false, Bool.not_true]
        exact yes (by simp [hits, hj, h15, ha])
  · rw [dec_f (show ¬ (s : Int) < n by omega)]
    try simp only [pureE, pureT, Nat.zero_add, Nat.reduceAdd, Bool.not_false, Bool.not_true]
    rw [List.take_of_length_le (by omega)] at hp
    rw [hp] at h
    exact h

theorem rd_cutLo' {α : Type} {f : α → List Value} {sz : Nat} {T E : TypeId} {by_ : Nat} {z : Option Value} (hT : P.underlying T = some (.slice E)) (hs : tyI P E = some (sz, by_, z)) (hf : ∀ x, (f x).length = sz) (hpos : 0 < sz) {v : Value} {n : Nat} {xs : List α} (hr : Rd W0 l sz v n (xs.flatMap f)) {k : IntKind} {i : Nat} (hi : i ≤ n) (h0 : 0 < n) :
    ∃ v', (∀ w, (V (Instr.sliceAt T v (some (.int k i)) none none)).run P w = .ok (.value v') w) ∧ Rd W0 l sz v' (n - i) ((xs.drop i).flatMap f) := by
  obtain ⟨a, c, rfl, h1, h2, h3⟩ := hr.form
  cases a with
  | none => exact absurd (h1 rfl) (by omega)
  | some ad =>
    obtain ⟨b, o, sp⟩ := ad
    have hsp : sp = none := h2 _ rfl h0
    subst hsp
    have hnc : n ≤ c := h3 rfl
    refine ⟨_, fun w => pv_cutLo hT hs (i := (i : Int)) (by omega) (by omega) hnc, ?_⟩
    rw [Int.toNat_natCast]
    exact rd_cutLo (P := P) hT hs hf hpos hr hi
theorem w64_less (x : Int) (k m : Nat) (hk : k ≤ 4294967296) (hm : m ≤ k) : M.w64 (M.w64 (x - k) + m) = IntKind.i64.wrap (x - ((k - m : Nat) : Int)) := by
  unfold M.w64 IntKind.wrap
  simp [IntKind.bits, IntKind.signed]
  omega

theorem replacedR_c {v bv : Value} {n m at_ k : Nat} {xs by_ : List M.Ins} (hr : Rd W0 l 3 v n (insC xs)) (hb : Rd W0 l 3 bv m (insC by_)) (hn : n ≤ 4294967296) (h0 : 0 < k) (hfit : at_ + k ≤ n) (hm : m ≤ k)
    (h : ∀ v', Run W0 (row 75 3 v' (M.replace at_ k by_ xs).length (insC (M.replace at_ k by_ xs)) :: l) (K v')) :
    Run W0 l (callS P 66 #[v, IV at_, IV k, bv] K pn) := by
  refine r66 ?_
  unfold S66
  have hl : xs.length = n := rd_len insV_len (by omega) hr
  have hbl : by_.length = m := rd_len insV_len (by omega) hb
  obtain ⟨ba, bc, rfl, _, _, _⟩ := hb.form
  obtain ⟨a, c, rfl, ha1, ha2, ha3⟩ := hr.form
  refine run_draw l (fun _ hw => hw) ?_
  refine run_rd_cutHiP un41 ty75 insV_len (by omega) hr at_ (by omega) fun v1 hr1 => ?_
  try simp only [pureE, pureT, Nat.zero_add, Nat.reduceAdd, Bool.not_false, Bool.not_true]
  rw [wrN (x := (at_ : Int) + k) (at_ + k) (by omega) (by omega)]
  obtain ⟨v2, hv2, hr2⟩ := rd_cutLo' (k := .i64) un41 ty75 insV_len (by omega) hr (i := at_ + k) (by omega) (by omega)
  refine run_px _ hv2 ?_
  have hc1 := flat_one (f := insV) insV_one (xs.take at_)
  have hc2 := flat_one (f := insV) insV_one by_
  have hc3 := flat_one (f := insV) insV_one (xs.drop (at_ + k))
  have hl1 : (xs.take at_).length = at_ := by rw [List.length_take]; omega
  refine run_buildSlice0 un41 ty75 fun b0 => ?_
  refine run_and (fun _ hw => hw.tail) ?_
  refine run_rowOfPt 0 3 0 rfl (by simp) (by unfold maxLen; omega) ?_
  refine run_append 0 un41 ty75 rfl rfl (hr1.mono fun _ hw => hw.tail) hc1 (by unfold maxLen; omega) (by omega) (by omega) fun v5 _ => ?_
  refine run_and (fun _ hw => hw.tail) ?_
  refine run_append 0 un41 ty75 rfl rfl (hb.mono fun _ hw => hw.tail) hc2 (by unfold maxLen; omega) (by omega) (by omega) fun v3 _ => ?_
  refine run_and (fun _ hw => hw.tail) ?_
  refine run_append 0 un41 ty75 rfl rfl (hr2.mono fun _ hw => hw.tail) hc3 (by unfold maxLen; omega) (by omega) (by omega) fun v4 _ => ?_
  refine run_and (fun _ hw => hw.tail) ?_
  obtain ⟨N, hN⟩ : ∃ N, N = n - k + m := ⟨_, rfl⟩
  obtain ⟨ys, hys⟩ : ∃ ys, ys = M.repl at_ k by_ xs := ⟨_, rfl⟩
  have hyl : ys.length = N := by rw [hys, repl_len (by omega), hl, hbl, hN]
  refine run_to (row 75 3 v4 N (insC ys) :: l) (fun w hw => ?_) ?_
  · have e1 : 0 + at_ + m + (n - (at_ + k)) = N := by omega
    have e2 : [] ++ (xs.take at_).flatMap insV ++ insC by_ ++ (xs.drop (at_ + k)).flatMap insV = insC ys := by
      rw [hys]
      simp [insC, M.repl]
    rw [← e1, ← e2]
    exact hw
  try simp only [pureE, pureT, Nat.zero_add, Nat.reduceAdd, Bool.not_false, Bool.not_true]
  rw [wrN (x := (k : Int) - m) (k - m) (by omega) (by omega)]
  refine run_row_rd 0 rfl fun hrd => ?_
  obtain ⟨ya, yc, hv4, _, _, _⟩ := hrd.form
  subst hv4
  refine run_loop (Inv := fun s : Nat => s ≤ N) (J := fun s => [IV at_, .slice ba m bc, .slice ya N yc, IV ((k - m : Nat) : Int), IV s])
    (H := fun s => row 75 3 (.slice ya N yc) N (insC ((ys.take s).map (M.fix at_ k m) ++ ys.drop s)) :: l) (μ := fun s => N - s) 0 (by omega) rfl (fun w hw => hw) ?_
  intro s e hs he
  simp only [List.map_cons, List.map_nil, List.cons.injEq, and_true] at he
  obtain ⟨e1, e3, e9, e10, e11⟩ := he
  unfold S66_l1
  simp only [e1, e3, e9, e10, e11]
  try simp only [pureE, pureT, Nat.zero_add, Nat.reduceAdd, Bool.not_false, Bool.not_true]
  by_cases hlt : s < N
  · rw [dec_t (show (s : Int) < N by omega)]
    try simp only [pureE, pureT, Nat.zero_add, Nat.reduceAdd, Bool.not_false, Bool.not_true]
    obtain ⟨x, hx⟩ : ∃ x, ys[s]? = some x := ⟨_, List.getElem?_eq_getElem (by omega)⟩
    have hx' := map_at (M.fix at_ k m) hx
    have hst := map_step (M.fix at_ k m) hx
    have next : ∀ c, (c = (ys.take (s + 1)).map (M.fix at_ k m) ++ ys.drop (s + 1)) → Run W0 (row 75 3 (.slice ya N yc) N (insC c) :: l)
        (S66_k2 (fun vs' w' => ∃ s', N - s' < N - s ∧ s' ≤ N ∧ [IV at_, .slice ba m bc, .slice ya N yc, IV ((k - m : Nat) : Int), IV (s' : Nat)] = vs' ∧ St W0 (row 75 3 (.slice ya N yc) N (insC ((ys.take s').map (M.fix at_ k m) ++ ys.drop s')) :: l) w')
          K pn (IV at_) (.slice ba m bc) (.slice ya N yc) (IV ((k - m : Nat) : Int)) (IV s)) := by
      rintro c rfl
      unfold S66_k2
      try simp only [pureE, pureT, Nat.zero_add, Nat.reduceAdd, Bool.not_false, Bool.not_true]
      rw [wrN (x := (s : Int) + 1) (s + 1) (by omega) (by omega)]
      exact fun w hw => ⟨s + 1, by omega, by omega, rfl, hw⟩
    have hj : M.jumps x = (x.op == 15 || x.op == 16) := rfl
    have same : M.fix at_ k m x = x → Run W0 (row 75 3 (.slice ya N yc) N (insC ((ys.take s).map (M.fix at_ k m) ++ ys.drop s)) :: l)
        (S66_k2 (fun vs' w' => ∃ s', N - s' < N - s ∧ s' ≤ N ∧ [IV at_, .slice ba m bc, .slice ya N yc, IV ((k - m : Nat) : Int), IV (s' : Nat)] = vs' ∧ St W0 (row 75 3 (.slice ya N yc) N (insC ((ys.take s').map (M.fix at_ k m) ++ ys.drop s')) :: l) w')
          K pn (IV at_) (.slice ba m bc) (.slice ya N yc) (IV ((k - m : Nat) : Int)) (IV s)) := fun hq => next _ (by rw [← hst, hq, set_self hx'])
    refine run_row_rd 0 rfl fun hrd => ?_
    refine run_rd_idx un41 ty75 insV_len (by omega) hrd s hx' fun b o hc => ?_
    try simp only [pureE, pureT, Nat.zero_add, Nat.reduceAdd, Bool.not_false, Bool.not_true]
    refine run_ld sc3 (hc.fld (k := 0) rfl) ?_
    try simp only [pureE, pureT, Nat.zero_add, Nat.reduceAdd, Bool.not_false, Bool.not_true]
    cases h15 : x.op == 15
    · try simp only [pureE, pureT, Nat.zero_add, Nat.reduceAdd, Bool.not_false, Bool.not_true]
      refine run_rd_idx un41 ty75 insV_len (by omega) hrd s hx' fun b o hc => ?_
      try simp only [pureE, pureT, Nat.zero_add, Nat.reduceAdd, Bool.not_false, Bool.not_true]
      refine run_ld sc3 (hc.fld (k := 0) rfl) ?_
      try simp only [pureE, pureT, Nat.zero_add, Nat.reduceAdd, Bool.not_false, Bool.not_true]
      cases h16 : x.op == 16
      · try simp only [pureE, pureT, Nat.zero_add, Nat.reduceAdd, Bool.not_false, Bool.not_true]
        exact same (by simp [M.fix, hj, h15, h16])
      · have hjx : M.jumps x = true := by simp [hj, h16]
        try simp only [pureE, pureT, Nat.zero_add, Nat.reduceAdd, Bool.not_false, Bool.not_true]
        refine run_rd_idx un41 ty75 insV_len (by omega) hrd s hx' fun b1 o1 hc1 => ?_
        try simp only [pureE, pureT, Nat.zero_add, Nat.reduceAdd, Bool.not_false, Bool.not_true]
        refine run_ld sc3 (hc1.fld (k := 1) rfl) ?_
        try simp only [pureE, pureT, Nat.zero_add, Nat.reduceAdd, Bool.not_false, Bool.not_true]
        cases hg : decide ((at_ : Int) < x.a)
        · try simp only [pureE, pureT, Nat.zero_add, Nat.reduceAdd, Bool.not_false, Bool.not_true]
          exact same (by simp [M.fix, hjx, hg])
        · try simp only [pureE, pureT, Nat.zero_add, Nat.reduceAdd, Bool.not_false, Bool.not_true]
          refine run_rd_idx un41 ty75 insV_len (by omega) hrd s hx' fun b2 o2 hc2 => ?_
          try simp only [pureE, pureT, Nat.zero_add, Nat.reduceAdd, Bool.not_false, Bool.not_true]
          refine run_ld sc3 (hc2.fld (k := 1) rfl) ?_
          try simp only [pureE, pureT, Nat.zero_add, Nat.reduceAdd, Bool.not_false, Bool.not_true]
          rw [wrN (x := (at_ : Int) + m) (at_ + m) (by omega) (by omega)]
          refine run_row_cases 0 rfl (fun _ h2 _ => absurd h2 (by omega)) fun b cp hv hnc hcm _ => ?_
          simp only [Value.slice.injEq] at hv
          obtain ⟨rfl, _, rfl⟩ := hv
          refine run_nx _ (fun w => pv_idx un41 ty75 (i := (s : Int)) (by omega) (by omega)) ?_
          rw [Int.toNat_natCast, Nat.zero_add]
          try simp only [pureE, pureT, Nat.zero_add, Nat.reduceAdd, Bool.not_false, Bool.not_true]
          refine run_st_row ty3 (i := 0) rfl rfl (by simp [Value.cells, Value.oneCell']) ?_ ?_
          · rw [flat_len insV_len]
            simp only [List.length_append, List.length_map, List.length_take, List.length_drop]
            omega
          refine Run.of (next _ hst) fun w hw => ?_
          have hf := flat_set (f := insV) insV_len (k := 1) (y := M.fix at_ k m x) (u := IV (max (IntKind.i64.wrap (x.a - ((k - m : Nat) : Int))) ((at_ + m : Nat) : Int))) (by omega) (by simp [M.fix, hjx, hg, insV, w64_less x.a k m (by omega) hm]) hx'
          rw [insC, ← hf]
          exact hw
    · have hjx : M.jumps x = true := by simp [hj, h15]
      try simp only [pureE, pureT, Nat.zero_add, Nat.reduceAdd, Bool.not_false, Bool.not_true]
      refine run_rd_idx un41 ty75 insV_len (by omega) hrd s hx' fun b1 o1 hc1 => ?_
      try simp only [pureE, pureT, Nat.zero_add, Nat.reduceAdd, Bool.not_false, Bool.not_true]
      refine run_ld sc3 (hc1.fld (k := 1) rfl) ?_
      try simp only [pureE, pureT, Nat.zero_add, Nat.reduceAdd, Bool.not_false, Bool.not_true]
      cases hg : decide ((at_ : Int) < x.a)
      · try simp only [pureE, pureT, Nat.zero_add, Nat.reduceAdd, Bool.not_false, Bool.not_true]
        exact same (by simp [M.fix, hjx, hg])
      · try simp only [pureE, pureT, Nat.zero_add, Nat.reduceAdd, Bool.not_false, Bool.not_true]
        refine run_rd_idx un41 ty75 insV_len (by omega) hrd s hx' fun b2 o2 hc2 => ?_
        try simp only [pureE, pureT, Nat.zero_add, Nat.reduceAdd, Bool.not_false, Bool.not_true]
        refine run_ld sc3 (hc2.fld (k := 1) rfl) ?_
        try simp only [pureE, pureT, Nat.zero_add, Nat.reduceAdd, Bool.not_false, Bool.not_true]
        rw [wrN (x := (at_ : Int) + m) (at_ + m) (by omega) (by omega)]
        refine run_row_cases 0 rfl (fun _ h2 _ => absurd h2 (by omega)) fun b cp hv hnc hcm _ => ?_
        simp only [Value.slice.injEq] at hv
        obtain ⟨rfl, _, rfl⟩ := hv
        refine run_nx _ (fun w => pv_idx un41 ty75 (i := (s : Int)) (by omega) (by omega)) ?_
        rw [Int.toNat_natCast, Nat.zero_add]
        try simp only [pureE, pureT, Nat.zero_add, Nat.reduceAdd, Bool.not_false, Bool.not_true]
        refine run_st_row ty3 (i := 0) rfl rfl (by simp [Value.cells, Value.oneCell']) ?_ ?_
        · rw [flat_len insV_len]
          simp only [List.length_append, List.length_map, List.length_take, List.length_drop]
          omega
        refine Run.of (next _ hst) fun w hw => ?_
        have hf := flat_set (f := insV) insV_len (k := 1) (y := M.fix at_ k m x) (u := IV (max (IntKind.i64.wrap (x.a - ((k - m : Nat) : Int))) ((at_ + m : Nat) : Int))) (by omega) (by simp [M.fix, hjx, hg, insV, w64_less x.a k m (by omega) hm]) hx'
        rw [insC, ← hf]
        exact hw
  · rw [dec_f (show ¬ (s : Int) < N by omega)]
    try simp only [pureE, pureT, Nat.zero_add, Nat.reduceAdd, Bool.not_false, Bool.not_true]
    have hfin : (ys.take s).map (M.fix at_ k m) ++ ys.drop s = M.replace at_ k by_ xs := by
      rw [List.take_of_length_le (by omega), List.drop_of_length_le (by omega), List.append_nil, M.replace, hys, hbl]
    rw [hfin]
    have hl' : (M.replace at_ k by_ xs).length = N := by rw [M.replace, List.length_map, ← hys, hyl]
    rw [← hl'] at *
    exact h _
end
end Go.Proofs.YtkonigmefmgepaaGreatDoor
