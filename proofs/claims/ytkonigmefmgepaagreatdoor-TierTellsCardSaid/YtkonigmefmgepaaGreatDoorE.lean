/- Contracts: the document's folding and its making for a number (own work). -/
import Derived.Test.YtkonigmefmgepaaGreatDoorD
import Derived.Test.YtkonigmefmgepaaGreatDoorWb
namespace Go.Proofs.YtkonigmefmgepaaGreatDoor
open Go.RowKit
set_option linter.unusedVariables false
set_option linter.unusedSimpArgs false

section
variable {W0 : World} {l : List As} {K : Value → C} {pn : Pn}

theorem fold_R {xs : List M.Ins} (hR : ∀ x ∈ xs, M.RI x) (hn : xs.length ≤ 4294967296) : ∀ {ys : List M.Ins}, M.firstR xs xs.length 0 = some ys → ∀ y ∈ ys, M.RI y := fun h => M.firstR_R hR hn h

abbrev curX (xs : List M.Ins) (o : Option (Value × List M.Ins)) : List M.Ins := match o with
  | some o => o.2
  | none => xs
abbrev curV (v : Value) (o : Option (Value × List M.Ins)) : Value := match o with
  | some o => o.1
  | none => v
abbrev curH (l : List As) (o : Option (Value × List M.Ins)) : List As := match o with
  | some o => row 75 3 o.1 o.2.length (insC o.2) :: l
  | none => l

theorem foldR_c {v : Value} {n : Nat} {xs : List M.Ins} (hr : Rd W0 l 3 v n (insC xs)) (hn : n ≤ 4294967296) (hR : ∀ x ∈ xs, M.RI x)
    (hnew : ∀ v', Run W0 (row 75 3 v' (M.fold xs).length (insC (M.fold xs)) :: l) (K v'))
    (hold : M.fold xs = xs → Run W0 l (K v)) : Run W0 l (callS P 45 #[v] K pn) := by
  refine r45 ?_
  unfold S45
  have hl : xs.length = n := rd_len insV_len (by omega) hr
  refine run_loop (Inv := fun s : Bool × Option (Value × List M.Ins) => M.fold (curX xs s.2) = M.fold xs ∧ (curX xs s.2).length ≤ n ∧ (∀ x ∈ curX xs s.2, M.RI x) ∧ (s.1 = false → M.fold (curX xs s.2) = curX xs s.2))
    (J := fun s => [curV v s.2, .bool s.1]) (H := fun s => curH l s.2) (μ := fun s => 2 * (curX xs s.2).length + (if s.1 then 1 else 0)) (true, none) ⟨rfl, Nat.le_of_eq hl, hR, by simp⟩ rfl (fun _ hw => hw) ?_
  rintro ⟨more, o⟩ e ⟨hq, hlen, hRo, hd⟩ he
  simp only [List.map_cons, List.map_nil, List.cons.injEq, and_true] at he hq hlen hRo hd
  obtain ⟨e0, e3⟩ := he
  unfold S45_l1
  simp only [e0, e3]
  cases more
  · try simp only [pureE, pureT, Nat.zero_add, Nat.reduceAdd, Bool.not_false, Bool.not_true]
    have hfin := hd rfl
    cases o with
    | none => exact hold hfin
    | some o =>
      have := hnew o.1
      rw [← hq, hfin] at this
      exact this
  · try simp only [pureE, pureT, Nat.zero_add, Nat.reduceAdd, Bool.not_false, Bool.not_true]
    have hrd : ∀ {c : C}, (Rd W0 (curH l o) 3 (curV v o) (curX xs o).length (insC (curX xs o)) → Run W0 (curH l o) c) → Run W0 (curH l o) c := by
      intro c hc
      cases o with
      | none => exact hc (by rw [show (curX xs none).length = n from hl]; exact hr)
      | some o => exact run_row_rd 0 rfl hc
    refine hrd fun hrd => ?_
    refine onceR_c hrd (by omega) hRo (fun ys v' hy => ?_) fun hy => ?_
    · try simp only [pureE, pureT, Nat.zero_add, Nat.reduceAdd, Bool.not_false, Bool.not_true]
      have hlt := M.firstR_len hy
      refine run_to (row 75 3 v' ys.length (insC ys) :: l) (fun w hw => ?_) fun w hw => ⟨(true, some (v', ys)), (by omega : 2 * ys.length + 1 < 2 * (curX xs o).length + 1), ⟨by rw [← hq]; exact (M.fold_some hy).symm, (by omega : ys.length ≤ n), fold_R hRo (by omega) hy, by simp⟩, rfl, hw⟩
      cases o with
      | none => exact hw
      | some o => exact hw.erase 1
    · try simp only [pureE, pureT, Nat.zero_add, Nat.reduceAdd, Bool.not_false, Bool.not_true]
      exact fun w hw => ⟨(false, o), by simp, ⟨hq, hlen, hRo, fun _ => M.fold_none hy⟩, rfl, hw⟩

theorem fixedR_c {f : M.Fn} {v : Value} {n : Nat} {p : Int} (hr : Rd W0 l 3 v n (insC f.l)) (hn : n ≤ 4294967296)
    (h : Run W0 l (K (.bool (M.fixed p f.params f.l)))) : Run W0 l (callS P 57 #[fnA f v, IV p] K pn) := by
  refine r57 ?_
  unfold S57
  have hl : f.l.length = n := rd_len insV_len (by omega) hr
  obtain ⟨a, c, rfl, h1, h2, h3⟩ := hr.form
  refine run_box fun b2 => ?_
  unfold M.fixed at h
  try simp only [pureE, pureT, Nat.zero_add, Nat.reduceAdd, Bool.not_false, Bool.not_true]
  cases h0 : decide (p < 0)
  case true =>
    rw [show decide (0 ≤ p) = false from by rw [decide_eq_true_eq] at h0; exact decide_eq_false (by omega)] at h
    try simp only [pureE, pureT, Nat.zero_add, Nat.reduceAdd, Bool.not_false, Bool.not_true]
    exact run_drop h
  rw [show decide (0 ≤ p) = true from by rw [decide_eq_false_iff_not] at h0; exact decide_eq_true (by omega)] at h
  try simp only [pureE, pureT, Nat.zero_add, Nat.reduceAdd, Bool.not_false, Bool.not_true]
  refine run_ld sc3 (cl1 (i := 0) rfl rfl) ?_
  try simp only [pureE, pureT, Nat.zero_add, Nat.reduceAdd, Bool.not_false, Bool.not_true]
  cases h4 : decide (f.params ≤ p)
  case true =>
    rw [show decide (p < f.params) = false from by rw [decide_eq_true_eq] at h4; exact decide_eq_false (by omega)] at h
    try simp only [pureE, pureT, Nat.zero_add, Nat.reduceAdd, Bool.not_false, Bool.not_true]
    exact run_drop h
  rw [show decide (p < f.params) = true from by rw [decide_eq_false_iff_not] at h4; exact decide_eq_true (by omega)] at h
  simp only [Bool.true_and] at h
  try simp only [pureE, pureT, Nat.zero_add, Nat.reduceAdd, Bool.not_false, Bool.not_true]
  refine run_loop (Inv := fun s : Nat => s ≤ n ∧ (f.l.take s).any (fun x => M.sets x p) = false) (J := fun s => [IV p, Ptr b2, IV s]) (H := fun _ => pt b2 74 (fnV f (.slice a n c)) :: l) (μ := fun s => n - s) 0 ⟨by omega, by simp⟩ rfl (fun _ hw => hw) ?_
  rintro s e ⟨hs, hp⟩ he
  simp only [List.map_cons, List.map_nil, List.cons.injEq, and_true] at he
  obtain ⟨e1, e2, e5⟩ := he
  unfold S57_l1
  simp only [e1, e2, e5]
  have hrd : Rd W0 (pt b2 74 (fnV f (.slice a n c)) :: l) 3 (.slice a n c) n (insC f.l) := hr.mono fun _ hw => hw.tail
  try simp only [pureE, pureT, Nat.zero_add, Nat.reduceAdd, Bool.not_false, Bool.not_true]
  refine run_ld sc41 (cl1 (i := 0) rfl rfl) ?_
  try simp only [pureE, pureT, Nat.zero_add, Nat.reduceAdd, Bool.not_false, Bool.not_true]
  by_cases hlt : s < n
  · rw [dec_t (show (s : Int) < n by omega)]
    try simp only [pureE, pureT, Nat.zero_add, Nat.reduceAdd, Bool.not_false, Bool.not_true]
    obtain ⟨x, hx⟩ : ∃ x, f.l[s]? = some x := ⟨_, List.getElem?_eq_getElem (by omega)⟩
    have htk : (f.l.take (s + 1)).any (fun x => M.sets x p) = M.sets x p := by
      rw [List.take_add_one, List.any_append, hp, hx]; simp
    have no : M.sets x p = false → Run W0 (pt b2 74 (fnV f (.slice a n c)) :: l) (fun w' => ∃ s', n - s' < n - s ∧ (s' ≤ n ∧ (f.l.take s').any (fun x => M.sets x p) = false) ∧ [IV p, Ptr b2, IV (s' : Nat)] = [IV p, Ptr b2, IV ((s + 1 : Nat) : Int)] ∧ St W0 (pt b2 74 (fnV f (.slice a n c)) :: l) w') :=
      fun hq w hw => ⟨s + 1, by omega, ⟨by omega, by rw [htk, hq]⟩, rfl, hw⟩
    have yes : M.sets x p = true → Run W0 (pt b2 74 (fnV f (.slice a n c)) :: l) (K (.bool false)) := fun hq => by
      rw [show f.l.any (fun x => M.sets x p) = true from by rw [← List.take_append_drop (s + 1) f.l, List.any_append, htk, hq]; rfl] at h
      exact run_drop h
    refine run_ld sc41 (cl1 (i := 0) rfl rfl) ?_
    refine run_rd_idx un41 ty75 insV_len (by omega) hrd s hx fun b o hc => ?_
    try simp only [pureE, pureT, Nat.zero_add, Nat.reduceAdd, Bool.not_false, Bool.not_true]
    refine run_ld sc3 (hc.fld (k := 0) rfl) ?_
    try simp only [pureE, pureT, Nat.zero_add, Nat.reduceAdd, Bool.not_false, Bool.not_true]
    cases h15 : x.op == 3
    · try simp only [pureE, pureT, Nat.zero_add, Nat.reduceAdd, Bool.not_false, Bool.not_true]
      refine run_ld sc41 (cl1 (i := 0) rfl rfl) ?_
      refine run_rd_idx un41 ty75 insV_len (by omega) hrd s hx fun b o hc => ?_
      try simp only [pureE, pureT, Nat.zero_add, Nat.reduceAdd, Bool.not_false, Bool.not_true]
      refine run_ld sc3 (hc.fld (k := 0) rfl) ?_
      try simp only [pureE, pureT, Nat.zero_add, Nat.reduceAdd, Bool.not_false, Bool.not_true]
      cases h16 : x.op == 21
      · try simp only [pureE, pureT, Nat.zero_add, Nat.reduceAdd, Bool.not_false, Bool.not_true]
        rw [wrN (x := (s : Int) + 1) (s + 1) (by omega) (by omega)]
        exact no (by simp [M.sets, h15, h16])
      · try simp only [pureE, pureT, Nat.zero_add, Nat.reduceAdd, Bool.not_false, Bool.not_true]
        refine run_ld sc41 (cl1 (i := 0) rfl rfl) ?_
        refine run_rd_idx un41 ty75 insV_len (by omega) hrd s hx fun b o hc => ?_
        try simp only [pureE, pureT, Nat.zero_add, Nat.reduceAdd, Bool.not_false, Bool.not_true]
        refine run_ld sc3 (hc.fld (k := 1) rfl) ?_
        try simp only [pureE, pureT, Nat.zero_add, Nat.reduceAdd, Bool.not_false, Bool.not_true]
        cases ha : x.a == p
        · try simp only [pureE, pureT, Nat.zero_add, Nat.reduceAdd, Bool.not_false, Bool.not_true]
          rw [wrN (x := (s : Int) + 1) (s + 1) (by omega) (by omega)]
          exact no (by simp [M.sets, h15, h16, ha])
        · try simp only [pureE, pureT, Nat.zero_add, Nat.reduceAdd, Bool.not_false, Bool.not_true]
          exact yes (by simp [M.sets, h15, h16, ha])
    · try simp only [pureE, pureT, Nat.zero_add, Nat.reduceAdd, Bool.not_false, Bool.not_true]
      refine run_ld sc41 (cl1 (i := 0) rfl rfl) ?_
      refine run_rd_idx un41 ty75 insV_len (by omega) hrd s hx fun b o hc => ?_
      try simp only [pureE, pureT, Nat.zero_add, Nat.reduceAdd, Bool.not_false, Bool.not_true]
      refine run_ld sc3 (hc.fld (k := 1) rfl) ?_
      try simp only [pureE, pureT, Nat.zero_add, Nat.reduceAdd, Bool.not_false, Bool.not_true]
      cases ha : x.a == p
      · try simp only [pureE, pureT, Nat.zero_add, Nat.reduceAdd, Bool.not_false, Bool.not_true]
        rw [wrN (x := (s : Int) + 1) (s + 1) (by omega) (by omega)]
        exact no (by simp [M.sets, h15, ha])
      · try simp only [pureE, pureT, Nat.zero_add, Nat.reduceAdd, Bool.not_false, Bool.not_true]
        exact yes (by simp [M.sets, h15, ha])
  · rw [dec_f (show ¬ (s : Int) < n by omega)]
    try simp only [pureE, pureT, Nat.zero_add, Nat.reduceAdd, Bool.not_false, Bool.not_true]
    rw [List.take_of_length_le (by omega)] at hp
    rw [hp] at h
    exact run_drop h

theorem forR_c {f : M.Fn} {v : Value} {n : Nat} {p num : Int} (hr : Rd W0 l 3 v n (insC f.l)) (hn : n ≤ 4294967296) (hR : ∀ x ∈ f.l, M.RI x) (hnum : In64 num)
    (h : ∀ v', Run W0 (row 75 3 v' (M.spec p num f.params f.l).length (insC (M.spec p num f.params f.l)) :: l) (K v')) : Run W0 l (callS P 44 #[fnA f v, IV p, IV num] K pn) := by
  refine r44 ?_
  unfold S44
  have hl : f.l.length = n := rd_len insV_len (by omega) hr
  obtain ⟨a, c, rfl, h1, h2, h3⟩ := hr.form
  refine run_box fun b3 => ?_
  refine run_buildSlice0 un41 ty75 fun b0 => ?_
  refine run_rowOfPt 0 3 0 rfl (by simp) (by unfold maxLen; omega) ?_
  refine run_lda ag74 ty74 (xs := fnV f (.slice a n c)) rfl (cl_all (i := 1) rfl) ?_
  refine fixedR_c (f := f) (hr.mono fun _ hw => hw.tail.tail) hn ?_
  obtain ⟨is, his⟩ : ∃ is, is = M.fixed p f.params f.l := ⟨_, rfl⟩
  rw [← his]
  obtain ⟨g, hg⟩ : ∃ g : M.Ins → M.Ins, g = if is then M.sub p num else id := ⟨_, rfl⟩
  have hspec : M.spec p num f.params f.l = M.fold (f.l.map g) := by
    unfold M.spec
    rw [← his, hg]
    cases is <;> simp
  have hgR : ∀ x ∈ f.l.map g, M.RI x := by
    intro x hx
    obtain ⟨y, hy, rfl⟩ := List.mem_map.1 hx
    rw [hg]
    cases is
    · exact hR y hy
    · simp only [if_true, M.sub]
      split
      · exact M.push_R hnum
      · exact hR y hy
  refine run_loop (Inv := fun s : Nat × Value => s.1 ≤ n) (J := fun s => [IV p, IV num, Ptr b3, s.2, .bool is, IV s.1])
    (H := fun s => row 75 3 s.2 s.1 (insC ((f.l.take s.1).map g)) :: pt b3 74 (fnV f (.slice a n c)) :: l) (μ := fun s => n - s.1) (0, .slice (some ⟨b0, 0, none⟩) 0 0) (by simp) rfl (fun w hw => hw) ?_
  rintro ⟨s, u⟩ e hs he
  simp only [List.map_cons, List.map_nil, List.cons.injEq, and_true] at he hs
  obtain ⟨e1, e2, e3, e7, e8, e9⟩ := he
  unfold S44_l1
  simp only [e1, e2, e3, e7, e8, e9]
  try simp only [pureE, pureT, Nat.zero_add, Nat.reduceAdd, Bool.not_false, Bool.not_true]
  refine run_ld sc41 (cl1 (i := 1) rfl rfl) ?_
  try simp only [pureE, pureT, Nat.zero_add, Nat.reduceAdd, Bool.not_false, Bool.not_true]
  by_cases hlt : s < n
  · rw [dec_t (show (s : Int) < n by omega)]
    try simp only [pureE, pureT, Nat.zero_add, Nat.reduceAdd, Bool.not_false, Bool.not_true]
    obtain ⟨x, hx⟩ : ∃ x, f.l[s]? = some x := ⟨_, List.getElem?_eq_getElem (by omega)⟩
    refine run_ld sc41 (cl1 (i := 1) rfl rfl) ?_
    refine run_rd_idx un41 ty75 insV_len (by omega) (hr.mono fun _ hw => St.tail (A := pt b3 74 (fnV f (.slice a n c))) (St.tail (A := row 75 3 u s (insC ((f.l.take s).map g))) hw)) s hx fun b o hc => ?_
    refine run_lda ag75 ty75 rfl hc ?_
    refine run_alloc ty75 fun b10 => ?_
    refine run_st ty75 (i := 0) rfl rfl (by simp [insV, Value.cells, Value.oneCell']) (by simp [Value.cells]) ?_
    refine run_to (pt b10 75 (insV x) :: row 75 3 u s (insC ((f.l.take s).map g)) :: pt b3 74 (fnV f (.slice a n c)) :: l) (fun w hw => hw) ?_
    have next : ∀ y, y = g x → Run W0 (pt b10 75 (insV y) :: row 75 3 u s (insC ((f.l.take s).map g)) :: pt b3 74 (fnV f (.slice a n c)) :: l)
        (S44_k2 (fun vs' w' => ∃ s' : Nat × Value, n - s'.1 < n - s ∧ s'.1 ≤ n ∧ [IV p, IV num, Ptr b3, s'.2, .bool is, IV s'.1] = vs' ∧ St W0 (row 75 3 s'.2 s'.1 (insC ((f.l.take s'.1).map g)) :: pt b3 74 (fnV f (.slice a n c)) :: l) w')
          K pn (IV p) (IV num) (Ptr b3) u (.bool is) (IV s) (Ptr b10)) := by
      rintro y rfl
      unfold S44_k2
      refine run_lda ag75 ty75 (xs := insV (g x)) rfl (cl_all (i := 0) rfl) ?_
      refine run_buildSlice (insV (g x)) un41 ty75 (by omega) (by omega) (fill75 _) fun bb => ?_
      refine run_append (m := 1) 2 un41 ty75 rfl rfl (Rd.pt (i := 0) rfl 3 rfl) (insV_one _) (by unfold maxLen; omega) (by omega) (by omega) fun u' _ => ?_
      try simp only [pureE, pureT, Nat.zero_add, Nat.reduceAdd, Bool.not_false, Bool.not_true]
      rw [wrN (x := (s : Int) + 1) (s + 1) (by omega) (by omega)]
      refine run_to (row 75 3 u' (s + 1) (insC ((f.l.take (s + 1)).map g)) :: pt b3 74 (fnV f (.slice a n c)) :: l) (fun w hw => ?_) fun w hw => ⟨(s + 1, u'), by simp only; omega, by simp only; omega, rfl, hw⟩
      have e1 : insC ((f.l.take (s + 1)).map g) = insC ((f.l.take s).map g) ++ insV (g x) := by
        rw [List.take_add_one, hx]
        simp [insC]
      rw [e1]
      exact (hw.erase 0).erase 0
    have hsame : (is = true → (x.op == 2 && x.a == p) = false) → x = g x := by
      intro hq
      rw [hg]
      cases is
      · rfl
      · simp only [if_true, M.sub, hq rfl, Bool.false_eq_true, if_false]
    try simp only [pureE, pureT, Nat.zero_add, Nat.reduceAdd, Bool.not_false, Bool.not_true]
    cases his2 : is
    · subst his2
      try simp only [pureE, pureT, Nat.zero_add, Nat.reduceAdd, Bool.not_false, Bool.not_true]
      exact next x (hsame (by simp))
    · rw [his2] at next hsame hg
      try simp only [pureE, pureT, Nat.zero_add, Nat.reduceAdd, Bool.not_false, Bool.not_true]
      refine run_ld sc3 (cl1 (i := 0) rfl rfl) ?_
      try simp only [pureE, pureT, Nat.zero_add, Nat.reduceAdd, Bool.not_false, Bool.not_true]
      cases h2 : x.op == 2
      · try simp only [pureE, pureT, Nat.zero_add, Nat.reduceAdd, Bool.not_false, Bool.not_true]
        exact next x (hsame fun _ => by rw [h2]; rfl)
      · try simp only [pureE, pureT, Nat.zero_add, Nat.reduceAdd, Bool.not_false, Bool.not_true]
        refine run_ld sc3 (cl1 (i := 0) rfl rfl) ?_
        try simp only [pureE, pureT, Nat.zero_add, Nat.reduceAdd, Bool.not_false, Bool.not_true]
        cases ha : x.a == p
        · try simp only [pureE, pureT, Nat.zero_add, Nat.reduceAdd, Bool.not_false, Bool.not_true]
          exact next x (hsame fun _ => by rw [h2, ha]; rfl)
        · try simp only [pureE, pureT, Nat.zero_add, Nat.reduceAdd, Bool.not_false, Bool.not_true]
          refine run_nx (insA ⟨1, 0, num⟩) (fun w => by kernel_rfl) ?_
          refine run_st ty75 (i := 0) rfl rfl (by simp [Value.cells, Value.oneCell']) (by simp [insV, Value.cells]) ?_
          refine run_to _ (fun w hw => ?_) (next ⟨1, 0, num⟩ (by rw [hg]; simp [M.sub, h2, ha]))
          exact hw
  · rw [dec_f (show ¬ (s : Int) < n by omega)]
    try simp only [pureE, pureT, Nat.zero_add, Nat.reduceAdd, Bool.not_false, Bool.not_true]
    refine run_row_rd 0 rfl fun hrd => ?_
    rw [List.take_of_length_le (show f.l.length ≤ s by omega)] at *
    rw [hspec] at h
    refine foldR_c hrd (by omega) hgR (fun v' => run_erase 1 (run_erase 1 (h v'))) fun hq => ?_
    have := h u
    rw [hq] at this
    refine run_erase 1 ?_
    have hsn : s = (f.l.map g).length := by simp; omega
    rw [hsn]
    exact this
end
end Go.Proofs.YtkonigmefmgepaaGreatDoor
