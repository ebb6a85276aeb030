/- Contracts: the profile (own work). -/
import Derived.Test.YtkonigmefmgepaaDoorW9
namespace Go.Proofs.YtkonigmefmgepaaDoor
open Go.RowKit
set_option linter.unusedVariables false
set_option linter.unusedSimpArgs false

def runV (r : Int × Int) : List Value := [IV r.1, IV r.2]
def pfC (f : M.PFn) : List Value := [IV f.params, IV f.calls] ++ (List.range 8).flatMap fun i => runV (f.runs i)
theorem pfC_eq (f : M.PFn) : pfC f = [IV f.params, IV f.calls, IV (f.runs 0).1, IV (f.runs 0).2, IV (f.runs 1).1, IV (f.runs 1).2, IV (f.runs 2).1, IV (f.runs 2).2, IV (f.runs 3).1, IV (f.runs 3).2,
    IV (f.runs 4).1, IV (f.runs 4).2, IV (f.runs 5).1, IV (f.runs 5).2, IV (f.runs 6).1, IV (f.runs 6).2, IV (f.runs 7).1, IV (f.runs 7).2] := rfl
theorem pfC_len (f : M.PFn) : (pfC f).length = 18 := rfl
theorem pfC_one (f : M.PFn) : ∀ u ∈ pfC f, u.oneCell' = true := by
  intro u hu
  rw [pfC_eq] at hu
  simp only [List.mem_cons, List.not_mem_nil, or_false] at hu
  rcases hu with rfl | rfl | rfl | rfl | rfl | rfl | rfl | rfl | rfl | rfl | rfl | rfl | rfl | rfl | rfl | rfl | rfl | rfl <;> rfl
theorem pfC_v {f : M.PFn} {i : Nat} (h : i < 8) : (pfC f)[2 + i * 2]? = some (IV (f.runs i).1) := by
  rw [pfC_eq]
  rcases i with _ | _ | _ | _ | _ | _ | _ | _ | i
  all_goals first | rfl | omega
theorem pfC_t {f : M.PFn} {i : Nat} (h : i < 8) : (pfC f)[2 + i * 2 + 1]? = some (IV (f.runs i).2) := by
  rw [pfC_eq]
  rcases i with _ | _ | _ | _ | _ | _ | _ | _ | i
  all_goals first | rfl | omega
theorem pfC_setV {f : M.PFn} {i : Nat} (h : i < 8) (v t : Int) : pfC { f with runs := M.setR f.runs i (v, t) } = ((pfC f).set (2 + i * 2) (IV v)).set (2 + i * 2 + 1) (IV t) := by
  rw [pfC_eq, pfC_eq]
  rcases i with _ | _ | _ | _ | _ | _ | _ | _ | i
  all_goals first | rfl | omega

def profPs (pb : Nat) (s : List M.PFn) (v : Value) : List As := [pt pb 94 [v], row 99 18 v s.length (s.flatMap pfC)]
def profA (pb : Nat) (s : List M.PFn) : As := obj (profPs pb s)

section
variable {W0 : World} {l : List As} {K : Value → C} {pn : Pn}

theorem pfFill (n : Int) : Instr.fill (fun i => some (i * 18, 18)) ((Array.range (1 * 18)).map ((Value.agg #[IV 0, IV 0, IV 0, IV 0, IV 0, IV 0, IV 0, IV 0, IV 0, IV 0, IV 0, IV 0, IV 0, IV 0, IV 0, IV 0, IV 0, IV 0]).cells[· % (Value.agg #[IV 0, IV 0, IV 0, IV 0, IV 0, IV 0, IV 0, IV 0, IV 0, IV 0, IV 0, IV 0, IV 0, IV 0, IV 0, IV 0, IV 0, IV 0]).cells.size]!))
    [(0, .agg #[IV n, IV 0, IV 0, IV 0, IV 0, IV 0, IV 0, IV 0, IV 0, IV 0, IV 0, IV 0, IV 0, IV 0, IV 0, IV 0, IV 0, IV 0])] = some (pfC ⟨n, 0, fun _ => (0, 0)⟩).toArray := by kernel_rfl

theorem profNew_c {v : Value} {n : Nat} {ps : List Int} (hr : Rd W0 l 1 v n (numC ps)) (hn : n ≤ 4294967296)
    (h : ∀ pb, Run W0 (profA pb (M.newP ps) :: l) (K (Ptr pb))) : Run W0 l (callS P 21 #[v] K pn) := by
  refine r21 ?_
  unfold S21
  have hl : ps.length = n := rd_len numV_len (by omega) hr
  obtain ⟨a, c, rfl, h1, h2, h3⟩ := hr.form
  refine run_nx (.agg #[.slice none 0 0]) (fun w => by kernel_rfl) ?_
  refine run_box fun pb => ?_
  try simp only [pureE, pureT, Nat.zero_add, Nat.reduceAdd, Bool.not_false, Bool.not_true]
  refine run_loop (Inv := fun s : Nat => s ≤ n) (J := fun s => [Ptr pb, .slice a n c, IV n, IV s]) (H := fun s => profA pb (M.newP (ps.take s)) :: l) (μ := fun s => n - s) 0 (by omega) rfl (fun w hw => ?_) ?_
  · have h1 : St W0 (row 99 18 (.slice none 0 0) 0 [] :: pt pb 94 [.slice none 0 0] :: l) w := hw.new ⟨rfl, rfl, rfl, Nat.le_refl _, fun _ _ _ => rfl⟩ (fun _ => False) (fun _ hx => hx.elim) ⟨by simp, .inl ⟨rfl, rfl, fun _ hx => hx⟩⟩
    have h2 : St W0 (profPs pb (M.newP (ps.take 0)) (.slice none 0 0) ++ l) w := h1.front 1
    exact h2.pack fun F hs => ⟨_, hs⟩
  intro s e hs he
  simp only [List.map_cons, List.map_nil, List.cons.injEq, and_true] at he
  obtain ⟨e3, e8, e9, e10⟩ := he
  unfold S21_l1
  simp only [e3, e8, e9, e10]
  try simp only [pureE, pureT, Nat.zero_add, Nat.reduceAdd, Bool.not_false, Bool.not_true]
  by_cases hlt : s < n
  · rw [dec_t (show (s : Int) < n by omega)]
    try simp only [pureE, pureT, Nat.zero_add, Nat.reduceAdd, Bool.not_false, Bool.not_true]
    obtain ⟨x, hx⟩ : ∃ x, ps[s]? = some x := ⟨_, List.getElem?_eq_getElem (by omega)⟩
    refine run_rd_idx un63 ty3 numV_len (by omega) hr s hx fun b o hc => ?_
    refine run_ld sc3 (hc.mono fun _ hw => hw.tail) ?_
    try simp only [pureE, pureT, Nat.zero_add, Nat.reduceAdd, Bool.not_false, Bool.not_true]
    refine run_open 0 rfl fun v2 => ?_
    refine run_ld sc92 (cl1 (i := 0) rfl rfl) ?_
    refine run_nx (.agg #[IV (M.clamp8 x), IV 0, IV 0, IV 0, IV 0, IV 0, IV 0, IV 0, IV 0, IV 0, IV 0, IV 0, IV 0, IV 0, IV 0, IV 0, IV 0, IV 0]) (fun w => by kernel_rfl) ?_
    refine run_buildSlice (pfC ⟨M.clamp8 x, 0, fun _ => (0, 0)⟩) un92 ty99 (by omega) (by omega) (pfFill _) fun b3 => ?_
    have hlen : (M.newP (ps.take s)).length = s := by simp [M.newP]; omega
    refine run_append 2 un92 ty99 rfl rfl (Rd.pt (i := 0) rfl 18 (by rw [pfC_len])) (pfC_one _) (by unfold maxLen; omega) (by omega) (by omega) fun v3 _ => ?_
    refine run_drop ?_
    refine run_row_rd 1 rfl fun hrd => ?_
    obtain ⟨a2, c2, hv2, _, _, _⟩ := hrd.form
    subst hv2
    try simp only [pureE, pureT, Nat.zero_add, Nat.reduceAdd, Bool.not_false, Bool.not_true]
    refine run_st ty92 (i := 0) rfl rfl (by simp [Value.cells, Value.oneCell']) (by simp) ?_
    rw [wrN (x := (s : Int) + 1) (s + 1) (by omega) (by omega)]
    have hnew : M.newP (ps.take (s + 1)) = M.newP (ps.take s) ++ [⟨M.clamp8 x, 0, fun _ => (0, 0)⟩] := by
      unfold M.newP
      rw [List.take_add_one, hx, List.map_append]; rfl
    refine fun w hw => ⟨s + 1, by omega, by omega, rfl, ?_⟩
    have h2 : St W0 (profPs pb (M.newP (ps.take (s + 1))) (.slice a2 ((M.newP (ps.take s)).length + 1) c2) ++ l) w := by
      rw [hnew]
      unfold profPs
      simp only [List.length_append, List.length_singleton, List.flatMap_append, List.flatMap_cons, List.flatMap_nil, List.append_nil]
      exact hw
    exact h2.pack fun F hs => ⟨_, hs⟩
  · rw [dec_f (show ¬ (s : Int) < n by omega)]
    try simp only [pureE, pureT, Nat.zero_add, Nat.reduceAdd, Bool.not_false, Bool.not_true]
    rw [List.take_of_length_le (by omega)]
    exact h pb

/-- A function of the profile, in range. -/
theorem profOf_c {i pb b n c fn : Nat} (hi : l[i]? = some (pt pb 94 [.slice (some ⟨b, 0, none⟩) n c])) (hfn : fn < n)
    (h : Run W0 l (K (.pointer (some ⟨b, fn * 18, none⟩)))) : Run W0 l (callS P 36 #[Ptr pb, IV fn] K pn) := by
  refine r36 ?_
  unfold S36
  try simp only [pureE, pureT, Nat.zero_add, Nat.reduceAdd, Bool.not_false, Bool.not_true]
  rw [dec_f (show ¬ (fn : Int) < 0 by omega)]
  try simp only [pureE, pureT, Nat.zero_add, Nat.reduceAdd, Bool.not_false, Bool.not_true]
  refine run_ld sc92 (cl1 hi rfl) ?_
  try simp only [pureE, pureT, Nat.zero_add, Nat.reduceAdd, Bool.not_false, Bool.not_true]
  rw [dec_f (show ¬ (n : Int) ≤ fn by omega)]
  try simp only [pureE, pureT, Nat.zero_add, Nat.reduceAdd, Bool.not_false, Bool.not_true]
  refine run_ld sc92 (cl1 hi rfl) ?_
  refine run_nx _ (fun w => pv_idx un92 ty99 (i := (fn : Int)) (by omega) (by omega)) ?_
  rw [Int.toNat_natCast, Nat.zero_add]
  exact h

/-- One cell of an owned row is set. -/
theorem run_setRow {T : TypeId} {by_ : Nat} {z : Option Value} (hs : tyI P T = some (1, by_, z)) {i : Nat} {E : TypeId} {sz b n c : Nat} {xs : List Value} (hi : l[i]? = some (row E sz (.slice (some ⟨b, 0, none⟩) n c) n xs)) {o : Nat} {v : Value}
    (hv : v.cells = #[v]) (h1 : v.oneCell' = true) (hfit : o < xs.length) (hk : Run W0 (l.set i (row E sz (.slice (some ⟨b, 0, none⟩) n c) n (xs.set o v))) (K undef)) :
    Run W0 l (nextS P (U (Instr.storeAt T (.pointer (some ⟨b, o, none⟩)) v)) K pn) := by
  refine run_st_row hs hi (by rw [hv]; rfl) (by rw [hv]; simpa using h1) (by omega) ?_
  rw [hv, splice_one _ _ _ hfit]
  exact hk
theorem cl_row {i b n c : Nat} {E : TypeId} {sz : Nat} {xs : List Value} (hi : l[i]? = some (row E sz (.slice (some ⟨b, 0, none⟩) n c) n xs)) {o : Nat} {v : Value} (hv : xs[o]? = some v) : Cls W0 l ⟨b, o, none⟩ [v] := by
  have := (Cls.row (W0 := W0) hi).sub o [v] (fun j u hj => by
    cases j with
    | zero => simp at hj; subst hj; simpa using hv
    | succ j => simp at hj) rfl
  rwa [Addr.add_lit, Nat.zero_add] at this

/-- A run takes a value. -/
theorem runSee_c {i b n c o : Nat} {xs : List Value} {r : Int × Int} {x : Int} (hi : l[i]? = some (row 99 18 (.slice (some ⟨b, 0, none⟩) n c) n xs)) (h0 : xs[o]? = some (IV r.1)) (h1 : xs[o + 1]? = some (IV r.2))
    (h : Run W0 (l.set i (row 99 18 (.slice (some ⟨b, 0, none⟩) n c) n ((xs.set o (IV (M.seeR r x).1)).set (o + 1) (IV (M.seeR r x).2)))) (K (.tuple #[]))) :
    Run W0 l (callS P 37 #[.pointer (some ⟨b, o, none⟩), IV x] K pn) := by
  refine r37 ?_
  unfold S37
  have hl0 := (List.getElem?_eq_some_iff.1 h0).1
  have hl1 := (List.getElem?_eq_some_iff.1 h1).1
  try simp only [pureE, pureT, Nat.zero_add, Nat.reduceAdd, Bool.not_false, Bool.not_true]
  refine run_ld sc2 (cl_row hi h0) ?_
  try simp only [pureE, pureT, Nat.zero_add, Nat.reduceAdd, Bool.not_false, Bool.not_true]
  unfold M.seeR at h
  have k : ∀ (t : Int) (ys : List Value), ys.length = xs.length → ys[o + 1]? = some (IV t) → Run W0 (l.set i (row 99 18 (.slice (some ⟨b, 0, none⟩) n c) n (ys.set (o + 1) (IV (min (M.w64 (t + 1)) 1000))))) (K (.tuple #[])) →
      Run W0 (l.set i (row 99 18 (.slice (some ⟨b, 0, none⟩) n c) n ys)) (S37_k1 K pn (.pointer (some ⟨b, o, none⟩))) := by
    intro t ys hy ht hk
    unfold S37_k1
    try simp only [pureE, pureT, Nat.zero_add, Nat.reduceAdd, Bool.not_false, Bool.not_true]
    refine run_ld sc3 (cl_row (set_get hi) ht) ?_
    try simp only [pureE, pureT, Nat.zero_add, Nat.reduceAdd, Bool.not_false, Bool.not_true]
    refine run_setRow ty3 (set_get hi) rfl rfl (by omega) ?_
    rw [List.set_set]
    exact hk
  cases hq : r.1 != x
  · have hx : r.1 = x := by simpa using hq
    try simp only [pureE, pureT, Nat.zero_add, Nat.reduceAdd, Bool.not_false, Bool.not_true]
    have := k r.2 xs rfl h1 (by
      rw [if_pos hx, ← hx, set_self h0] at h
      exact h)
    rw [row_set_id i hi] at this
    exact this
  · have hx : ¬ r.1 = x := by simpa using hq
    try simp only [pureE, pureT, Nat.zero_add, Nat.reduceAdd, Bool.not_false, Bool.not_true]
    refine run_nx (.agg #[IV x, IV 0]) (fun w => by kernel_rfl) ?_
    try simp only [pureE, pureT, Nat.zero_add, Nat.reduceAdd, Bool.not_false, Bool.not_true]
    refine run_st_row ty96 hi rfl (by simp [Value.cells, Value.oneCell']) (by omega) ?_
    have e : splice xs o (Value.agg #[IV x, IV 0]).cells.toList = (xs.set o (IV x)).set (o + 1) (IV 0) := by
      show splice xs o [IV x, IV 0] = _
      unfold splice
      apply List.ext_getElem?
      intro q
      simp only [List.getElem?_set, List.length_set]
      rcases Nat.lt_trichotomy q o with hqo | rfl | hqo
      · rw [List.getElem?_append_left (by rw [List.length_take]; omega), List.getElem?_take_of_lt hqo, if_neg (by omega), if_neg (by omega)]
      · rw [List.getElem?_append_right (by rw [List.length_take]; omega), List.length_take, Nat.min_eq_left (by omega), Nat.sub_self, if_neg (by omega), if_pos rfl, if_pos hl0]; rfl
      · rcases Nat.lt_or_ge (o + 1) q with h2 | h2
        · rw [List.getElem?_append_right (by rw [List.length_take]; omega), List.length_take, Nat.min_eq_left (by omega), List.getElem?_append_right (by simp; omega), if_neg (by omega), if_neg (by omega), List.getElem?_drop]
          congr 1
          simp; omega
        · obtain rfl : q = o + 1 := by omega
          rw [List.getElem?_append_right (by rw [List.length_take]; omega), List.length_take, Nat.min_eq_left (by omega), if_pos rfl, if_pos hl1, show o + 1 - o = 1 by omega]; rfl
    rw [e]
    refine k 0 _ (by simp) (by simp [List.getElem?_set, hl1]) ?_
    rw [if_neg hx] at h
    rw [List.set_set]
    exact h

theorem seeF_at (f : M.PFn) (args : List Int) (j : Nat) : (M.seeF f args).runs j = match args[j]? with
  | some v => M.seeR (f.runs j) v
  | none => f.runs j := rfl

/-- A profile sees a call of a function that it has, with as many arguments. -/
theorem see_c {i pb m : Nat} {fn : Nat} {s : List M.PFn} {f : M.PFn} {av : Value} {args : List Int} (hi : l[i]? = some (profA pb s)) (hf : s[fn]? = some f) (hp : f.params = (args.length : Int)) (h8 : args.length ≤ 8)
    (hs : s.length ≤ 4294967296) (hr : Rd W0 (l.eraseIdx i) 1 av m (numC args))
    (h : Run W0 (l.set i (profA pb (M.seeP s fn args))) (K (IV 0))) : Run W0 l (callS P 23 #[Ptr pb, IV fn, av] K pn) := by
  refine r23 ?_
  unfold S23
  have hl : args.length = m := rd_len numV_len (by omega) hr
  have hlt := (List.getElem?_eq_some_iff.1 hf).1
  obtain ⟨a, c, rfl, h1, h2, h3⟩ := hr.form
  refine run_open i hi fun v => ?_
  refine run_row_cases 1 rfl (fun _ h2 _ => absurd h2 (by omega)) fun b cp hv hnc hcm _ => ?_
  subst hv
  refine profOf_c (i := 0) (n := s.length) (c := cp) rfl hlt ?_
  refine run_nx (.bool false) (fun w => pv_eqlPN un101) ?_
  try simp only [pureE, pureT, Nat.zero_add, Nat.reduceAdd, Bool.not_false, Bool.not_true]
  have hat0 : (s.flatMap pfC)[fn * 18]? = some (IV f.params) := flat_get (f := pfC) pfC_len hf 0 _ rfl
  have hat1 : (s.flatMap pfC)[fn * 18 + 1]? = some (IV f.calls) := flat_get (f := pfC) pfC_len hf 1 _ rfl
  refine run_ld sc3 (cl_row (i := 1) rfl hat0) ?_
  try simp only [pureE, pureT, Nat.zero_add, Nat.reduceAdd, Bool.not_false, Bool.not_true]
  rw [show ((m : Int) != f.params) = false from by rw [hp, hl]; simp]
  try simp only [pureE, pureT, Nat.zero_add, Nat.reduceAdd, Bool.not_false, Bool.not_true]
  refine run_ld sc3 (cl_row (i := 1) rfl hat1) ?_
  try simp only [pureE, pureT, Nat.zero_add, Nat.reduceAdd, Bool.not_false, Bool.not_true]
  have hfl : (s.flatMap pfC).length = s.length * 18 := flat_len pfC_len s
  refine run_setRow ty3 (i := 1) rfl rfl rfl (by omega) ?_
  let g : Nat → M.PFn := fun q => { f with calls := min (M.w64 (f.calls + 1)) 1000, runs := fun j => match (args.take q)[j]? with
    | some v => M.seeR (f.runs j) v
    | none => f.runs j }
  refine run_loop (Inv := fun q : Nat => q ≤ m) (J := fun q => [.pointer (some ⟨b, fn * 18, none⟩), .slice a m c, IV m, IV q])
    (H := fun q => pt pb 94 [.slice (some ⟨b, 0, none⟩) s.length cp] :: row 99 18 (.slice (some ⟨b, 0, none⟩) s.length cp) s.length ((s.set fn (g q)).flatMap pfC) :: l.eraseIdx i) (μ := fun q => m - q) 0 (by omega) rfl (fun w hw => ?_) ?_
  · have e : (s.flatMap pfC).set (fn * 18 + 1) (IV (min (M.w64 (f.calls + 1)) 1000)) = (s.set fn (g 0)).flatMap pfC := by
      have := flat_set (f := pfC) pfC_len (x := f) (k := 1) (y := g 0) (u := IV (min (M.w64 (f.calls + 1)) 1000)) (by omega) rfl hf
      rw [← this, splice_one _ _ _ (by omega)]
    rw [← e]
    exact hw
  intro q e hq he
  simp only [List.map_cons, List.map_nil, List.cons.injEq, and_true] at he
  obtain ⟨e7, e33, e34, e35⟩ := he
  unfold S23_l1
  simp only [e7, e33, e34, e35]
  try simp only [pureE, pureT, Nat.zero_add, Nat.reduceAdd, Bool.not_false, Bool.not_true]
  have hgq : (s.set fn (g q))[fn]? = some (g q) := by simp [hlt]
  by_cases hltq : q < m
  · rw [dec_t (show (q : Int) < m by omega)]
    try simp only [pureE, pureT, Nat.zero_add, Nat.reduceAdd, Bool.not_false, Bool.not_true]
    obtain ⟨x, hx⟩ : ∃ x, args[q]? = some x := ⟨_, List.getElem?_eq_getElem (by omega)⟩
    refine run_rd_idx un26 ty2 numV_len (by omega) hr q hx fun b2 o2 hc2 => ?_
    refine run_ld sc2 (hc2.mono fun _ hw => hw.tail.tail) ?_
    try simp only [pureE, pureT, Nat.zero_add, Nat.reduceAdd, Bool.not_false, Bool.not_true]
    refine run_nx _ (fun w => pv_idxA un97 ty96 (i := (q : Int)) (by omega) (by omega)) ?_
    rw [Int.toNat_natCast]
    have hv0 : ((s.set fn (g q)).flatMap pfC)[fn * 18 + 2 + q * 2]? = some (IV ((g q).runs q).1) := by
      rw [Nat.add_assoc]; exact flat_get (f := pfC) pfC_len hgq _ _ (pfC_v (by omega))
    have hv1 : ((s.set fn (g q)).flatMap pfC)[fn * 18 + 2 + q * 2 + 1]? = some (IV ((g q).runs q).2) := by
      have := flat_get (f := pfC) pfC_len hgq _ _ (pfC_t (f := g q) (i := q) (by omega))
      rwa [show fn * 18 + (2 + q * 2 + 1) = fn * 18 + 2 + q * 2 + 1 by omega] at this
    refine runSee_c (i := 1) (r := (g q).runs q) rfl hv0 hv1 ?_
    rw [wrN (x := (q : Int) + 1) (q + 1) (by omega) (by omega)]
    refine fun w hw => ⟨q + 1, by omega, by omega, rfl, ?_⟩
    have hgn : g (q + 1) = { g q with runs := M.setR (g q).runs q (M.seeR ((g q).runs q) x) } := by
      have hrq : (g q).runs q = f.runs q := by
        show (match (args.take q)[q]? with | some v => M.seeR (f.runs q) v | none => f.runs q) = _
        rw [List.getElem?_take, if_neg (by omega)]
      show ({ f with calls := _, runs := _ } : M.PFn) = _
      congr 1
      funext j
      show (match (args.take (q + 1))[j]? with | some v => M.seeR (f.runs j) v | none => f.runs j) = M.setR (g q).runs q (M.seeR ((g q).runs q) x) j
      unfold M.setR
      by_cases hj : j = q
      · subst hj
        rw [if_pos rfl, List.getElem?_take, if_pos (by omega), hx, hrq]
      · rw [if_neg hj]
        show _ = (match (args.take q)[j]? with | some v => M.seeR (f.runs j) v | none => f.runs j)
        rw [List.getElem?_take, List.getElem?_take]
        by_cases hjq : j < q
        · rw [if_pos hjq, if_pos (by omega)]
        · rw [if_neg hjq, if_neg (by omega)]
    have e1 : (((s.set fn (g q)).flatMap pfC).set (fn * 18 + 2 + q * 2) (IV (M.seeR ((g q).runs q) x).1)).set (fn * 18 + 2 + q * 2 + 1) (IV (M.seeR ((g q).runs q) x).2) = (s.set fn (g (q + 1))).flatMap pfC := by
      have hlen2 : ((s.set fn (g q)).flatMap pfC).length = s.length * 18 := by rw [flat_len pfC_len]; simp
      let y1 : M.PFn := { g q with runs := M.setR (g q).runs q ((M.seeR ((g q).runs q) x).1, ((g q).runs q).2) }
      have hy1 : pfC y1 = (pfC (g q)).set (2 + q * 2) (IV (M.seeR ((g q).runs q) x).1) := by
        rw [pfC_setV (by omega)]
        exact set_self (by rw [List.getElem?_set_ne (by omega)]; exact pfC_t (by omega))
      have s1 := flat_set (f := pfC) pfC_len (k := 2 + q * 2) (y := y1) (by omega) hy1 hgq
      rw [splice_one _ _ _ (by omega), ← Nat.add_assoc] at s1
      rw [s1, List.set_set]
      have hg1 : (s.set fn y1)[fn]? = some y1 := by simp [hlt]
      have hy2 : pfC (g (q + 1)) = (pfC y1).set (2 + q * 2 + 1) (IV (M.seeR ((g q).runs q) x).2) := by
        rw [hgn, hy1, ← pfC_setV (by omega)]
      have s2 := flat_set (f := pfC) pfC_len (k := 2 + q * 2 + 1) (y := g (q + 1)) (by omega) hy2 hg1
      have hlen3 : ((s.set fn y1).flatMap pfC).length = s.length * 18 := by rw [flat_len pfC_len]; simp
      rw [splice_one _ _ _ (by omega), List.set_set, show fn * 18 + (2 + q * 2 + 1) = fn * 18 + 2 + q * 2 + 1 by omega] at s2
      exact s2
    rw [← e1]
    exact hw
  · rw [dec_f (show ¬ (q : Int) < m by omega)]
    try simp only [pureE, pureT, Nat.zero_add, Nat.reduceAdd, Bool.not_false, Bool.not_true]
    have hgm : g q = M.seeF f args := by
      show ({ f with calls := _, runs := _ } : M.PFn) = _
      unfold M.seeF
      rw [List.take_of_length_le (by omega)]
      rfl
    have hP : M.seeP s fn args = s.set fn (g q) := by unfold M.seeP; rw [hf, hgm]
    rw [hP] at h
    refine run_to (profPs pb (s.set fn (g q)) (.slice (some ⟨b, 0, none⟩) s.length cp) ++ l.eraseIdx i) (fun w hw => ?_) (run_shut l i _ hi h)
    unfold profPs
    rw [List.length_set]
    exact hw

theorem value_c {i pb : Nat} {fn p : Nat} {s : List M.PFn} {f : M.PFn} (hi : l[i]? = some (profA pb s)) (hf : s[fn]? = some f) (hp : (p : Int) < f.params) (h8 : p < 8)
    (h : Run W0 l (K (.tuple #[IV (f.runs p).1, IV (f.runs p).2]))) : Run W0 l (callS P 48 #[Ptr pb, IV fn, IV p] K pn) := by
  refine r48 ?_
  unfold S48
  have hlt := (List.getElem?_eq_some_iff.1 hf).1
  refine run_open i hi fun v => ?_
  refine run_row_cases 1 rfl (fun _ h2 _ => absurd h2 (by omega)) fun b cp hv hnc hcm _ => ?_
  subst hv
  refine profOf_c (i := 0) (n := s.length) (c := cp) rfl hlt ?_
  refine run_nx (.bool false) (fun w => pv_eqlPN un101) ?_
  try simp only [pureE, pureT, Nat.zero_add, Nat.reduceAdd, Bool.not_false, Bool.not_true]
  rw [dec_f (show ¬ (p : Int) < 0 by omega)]
  try simp only [pureE, pureT, Nat.zero_add, Nat.reduceAdd, Bool.not_false, Bool.not_true]
  have hat0 : (s.flatMap pfC)[fn * 18]? = some (IV f.params) := flat_get (f := pfC) pfC_len hf 0 _ rfl
  refine run_ld sc3 (cl_row (i := 1) rfl hat0) ?_
  try simp only [pureE, pureT, Nat.zero_add, Nat.reduceAdd, Bool.not_false, Bool.not_true]
  rw [dec_f (show ¬ f.params ≤ (p : Int) by omega)]
  try simp only [pureE, pureT, Nat.zero_add, Nat.reduceAdd, Bool.not_false, Bool.not_true]
  refine run_draw (profPs pb s (.slice (some ⟨b, 0, none⟩) s.length cp) ++ l.eraseIdx i) (fun w hw => hw) ?_
  refine run_px _ (fun w => pv_idxA un97 ty96 (i := (p : Int)) (by omega) (by omega)) ?_
  rw [Int.toNat_natCast]
  try simp only [pureE, pureT, Nat.zero_add, Nat.reduceAdd, Bool.not_false, Bool.not_true]
  have hv0 : (s.flatMap pfC)[fn * 18 + 2 + p * 2]? = some (IV (f.runs p).1) := by
    rw [Nat.add_assoc]; exact flat_get (f := pfC) pfC_len hf _ _ (pfC_v h8)
  have hv1 : (s.flatMap pfC)[fn * 18 + 2 + p * 2 + 1]? = some (IV (f.runs p).2) := by
    have := flat_get (f := pfC) pfC_len hf _ _ (pfC_t (f := f) (i := p) h8)
    rwa [show fn * 18 + (2 + p * 2 + 1) = fn * 18 + 2 + p * 2 + 1 by omega] at this
  refine take_ld sc2 (cl_row (i := 1) rfl hv0) ?_
  refine run_px _ (fun w => pv_idxA un97 ty96 (i := (p : Int)) (by omega) (by omega)) ?_
  rw [Int.toNat_natCast]
  try simp only [pureE, pureT, Nat.zero_add, Nat.reduceAdd, Bool.not_false, Bool.not_true]
  refine take_ld sc3 (cl_row (i := 1) rfl hv1) ?_
  refine run_shut (ps := profPs pb s) l i (Value.slice (some ⟨b, 0, none⟩) s.length cp) hi ?_
  rw [show l.set i (obj (profPs pb s)) = l from row_set_id i hi]
  exact h
end
end Go.Proofs.YtkonigmefmgepaaDoor
