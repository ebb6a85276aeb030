/- Contracts: the texts of instructions (own work). -/
import Derived.Test.YtkonigmefmgepaaGreatDoorWd
import Derived.Test.YtkonigmefmgepaaGreatDoorL0
import Derived.Test.YtkonigmefmgepaaGreatDoorShelf
import Derived.Lib.ItoaLen
namespace Go.Proofs.YtkonigmefmgepaaGreatDoor
open Go.RowKit
set_option linter.unusedVariables false
set_option linter.unusedSimpArgs false

/-! ### What is said of an instruction -/
def sortsM : List (List UInt8 × Int × Int × Int × Int) := [([63], 0, 0, (-1), 0), ([112, 117, 115, 104], 0, 1, 0, 2), ([108, 111, 97, 100], 0, 1, 0, 1), ([115, 116, 111, 114, 101], 1, 0, 0, 1), ([110, 101, 103], 1, 1, 0, 0), ([110, 111, 116], 1, 1, 0, 0), ([97, 100, 100], 2, 1, 0, 0), ([115, 117, 98], 2, 1, 0, 0), ([109, 117, 108], 2, 1, 2, 0), ([100, 105, 118], 2, 1, 7, 0), ([109, 111, 100], 2, 1, 7, 0), ([108, 101, 115, 115], 2, 1, 0, 0), ([115, 97, 109, 101], 2, 1, 0, 0), ([97, 110, 100], 2, 1, 0, 0), ([111, 114], 2, 1, 0, 0), ([106, 117, 109, 112], 0, 0, 0, 1), ([122, 101, 114, 111], 1, 0, 0, 1), ([99, 97, 108, 108], 0, 1, 9, 1), ([114, 101, 116, 117, 114, 110], 1, 0, 1, 0), ([112, 114, 105, 110, 116], 1, 0, 4, 0), ([107, 101, 101, 112], 1, 0, 4, 0), ([105, 110, 112, 117, 116], 0, 0, 3, 3), ([97, 114, 114, 97, 121], 0, 0, 19, 3), ([103, 101, 116], 1, 1, 2, 1), ([115, 101, 116], 2, 0, 2, 1), ([99, 108, 111, 99, 107], 0, 1, 1, 0)]
def sortM (k : Nat) : List UInt8 × Int × Int × Int × Int := sortsM.getD k ([63], 0, 0, -1, 0)
def sortV (e : List UInt8 × Int × Int × Int × Int) : List Value := [.string ⟨e.1.toArray⟩, IV e.2.1, IV e.2.2.1, IV e.2.2.2.1, IV e.2.2.2.2]
def ofI (op : Int) : Nat := if 1 ≤ op ∧ op ≤ 25 then op.toNat else 0
def hasB (op : Int) (m : Int) : Bool := IntKind.i64.wrap (BitVec.ofInt 64 (sortM (ofI op)).2.2.2.2 &&& BitVec.ofInt 64 m).toNat != 0
def wordsM (k : Nat) (x : M.Ins) : List (List UInt8) :=
  [Lib.itoa k, (sortM (ofI x.op)).1] ++ (if hasB x.op 1 then [Lib.itoa x.a] else []) ++ (if hasB x.op 2 then [Lib.itoa x.n] else [])
def lineM (k : Nat) (x : M.Ins) : List UInt8 := Lib.join (wordsM k x) [32] ++ [10]
def textM : Nat → List M.Ins → List UInt8
  | _, [] => []
  | k, x :: xs => lineM k x ++ textM (k + 1) xs
theorem ofI_lt (op : Int) : ofI op < 26 := by unfold ofI; split <;> omega
theorem sort_len (k : Nat) : (sortM k).1.length ≤ 6 := by
  rcases Nat.lt_or_ge k 26 with h | h
  · have key : ∀ k : Fin 26, (sortM k.1).1.length ≤ 6 := by decide
    exact key ⟨k, h⟩
  · unfold sortM
    rw [List.getD_eq_getElem?_getD, List.getElem?_eq_none (by exact h)]
    decide

/-- What the program's own start lays, and the library's. -/
structure Glb (W0 : World) : Prop where
  tab : Lib.TabIs P W0 "internal/strconv.uint64pow10" .u64 Lib.pow10Tab
  size : 0 < W0.heap.size
  sorts : ∀ j v, (sortsM.flatMap sortV)[j]? = some v → W0.cell? ⟨0, j, none⟩ = some v

section
variable {W0 : World} {l : List As} {K : Value → C} {pn : Pn}

theorem Glb.tabAt (g : Glb W0) {w : World} (h : St W0 l w) : Lib.TabIs P w "internal/strconv.uint64pow10" .u64 Lib.pow10Tab := by
  have ht := g.tab
  unfold Lib.TabIs World.var? at *
  cases hg : P.globalNamed "internal/strconv.uint64pow10" with
  | none => rw [hg] at ht; simp at ht
  | some k =>
    rw [hg] at ht
    simp only [Option.bind_some] at ht ⊢
    have hlt : k < W0.heap.size := by
      rcases Nat.lt_or_ge k W0.heap.size with h1 | h1
      · exact h1
      · rw [Array.getElem?_eq_none h1] at ht; simp at ht
    rw [h.below.block k hlt]
    exact ht
theorem sortV_len (e) : (sortV e).length = 5 := rfl
theorem Glb.cls (g : Glb W0) {k : Nat} (hk : k < 26) : Cls W0 l ⟨0, k * 5, none⟩ (sortV (sortM k)) := by
  refine Cls.base g.size fun j v hj => ?_
  rw [Addr.add_lit]
  refine g.sorts _ _ ?_
  refine flat_get sortV_len ?_ j v hj
  unfold sortM
  rw [List.getD_eq_getElem?_getD, List.getElem?_eq_getElem (by exact hk)]
  rfl

theorem run_grown {f : FuncId} {args : Array Value} {v : Value} (en : ∀ w, (callFunc f args).run P w = .ok (.enter f args) w) (h : ∀ w, St W0 l w → Calls P f args w fun e w' => e = .returned v ∧ w.grownBy w' none) (hk : Run W0 l (K v)) : Run W0 l (callS P f args K pn) :=
  run_call en fun w hw => (h w hw).mono fun e w' ⟨he, hg⟩ => by subst he; exact hk w' (hw.grown hg)
theorem en47 (args : Array Value) (w : World) : (callFunc 47 args).run P w = .ok (.enter 47 args) w := by kernel_rfl
theorem en50 (args : Array Value) (w : World) : (callFunc 50 args).run P w = .ok (.enter 50 args) w := by kernel_rfl
theorem en51 (args : Array Value) (w : World) : (callFunc 51 args).run P w = .ok (.enter 51 args) w := by kernel_rfl
theorem grownBy_grow (w : World) (k : Nat) (os : Array Obj) : w.grownBy (Sort.grow (w.drewN k) os) none := by
  refine ⟨rfl, rfl, rfl, ?_, fun b hb _ => ?_⟩
  · simp [Sort.grow, World.drewN]
  · show (w.heap ++ os)[b]? = w.heap[b]?
    rw [Array.getElem?_append_left hb]
theorem grownBy_below {w w' : World} (h : Below w.heap.size w w') : w.grownBy w' none := ⟨h.os, h.tape, h.output, h.size, fun k hk _ => h.block k hk⟩
theorem itoa_c {n : Int} (hn : M.R n) (g : Glb W0) (h : Run W0 l (K (.string ⟨(Lib.itoa n).toArray⟩))) : Run W0 l (callS P 47 #[IV n] K pn) :=
  run_grown (en47 _) (fun w hw => (Tryz.strconv_Itoa n hn.1 hn.2 w (g.tabAt hw)).mono fun e w' ⟨he, k, os, hw'⟩ => ⟨he, by subst hw'; exact grownBy_grow w k os⟩) h
theorem format_c {n : Int} (hn : M.R n) (g : Glb W0) (h : Run W0 l (K (.string ⟨(Lib.itoa n).toArray⟩))) : Run W0 l (callS P 50 #[IV n, IV 10] K pn) :=
  run_grown (en50 _) (fun w hw => (Tryz.strconv_FormatInt_10 n hn.1 hn.2 w (g.tabAt hw)).mono fun e w' ⟨he, k, os, hw'⟩ => ⟨he, by subst hw'; exact grownBy_grow w k os⟩) h

theorem known_c {op : Int} (h : Run W0 l (K (.bool (decide (1 ≤ op ∧ op ≤ 25))))) : Run W0 l (callS P 61 #[IV op] K pn) := by
  refine r61 ?_
  unfold S61
  try simp only [pureE, pureT, Nat.zero_add, Nat.reduceAdd, Bool.not_false, Bool.not_true]
  by_cases h1 : 1 ≤ op
  · rw [dec_t h1]
    try simp only [pureE, pureT, Nat.zero_add, Nat.reduceAdd, Bool.not_false, Bool.not_true]
    by_cases h2 : op ≤ 25
    · rw [dec_t h2]
      try simp only [pureE, pureT, Nat.zero_add, Nat.reduceAdd, Bool.not_false, Bool.not_true]
      rw [dec_t ⟨h1, h2⟩] at h; exact h
    · rw [dec_f h2]
      try simp only [pureE, pureT, Nat.zero_add, Nat.reduceAdd, Bool.not_false, Bool.not_true]
      rw [dec_f (fun e => h2 e.2)] at h; exact h
  · rw [dec_f h1]
    try simp only [pureE, pureT, Nat.zero_add, Nat.reduceAdd, Bool.not_false, Bool.not_true]
    rw [dec_f (fun e => h1 e.1)] at h; exact h
theorem of_c {op : Int} (g : Glb W0) (h : Run W0 l (K (.agg (sortV (sortM (ofI op))).toArray))) : Run W0 l (callS P 49 #[IV op] K pn) := by
  refine r49 ?_
  unfold S49
  refine run_alloc ty128 fun b => ?_
  have fin : ∀ k : Nat, k < 26 → ofI op = k → Run W0 (pt b 128 (Value.agg #[.string ⟨#[]⟩, IV 0, IV 0, IV 0, IV 0]).cells.toList :: l) (S49_k1 K pn (IV (k : Int)) (Ptr b)) := by
    intro k hk he
    unfold S49_k1
    refine run_nx _ (fun w => pv_idxA un145 ty128 (by omega) (by omega)) ?_
    simp only [Int.toNat_natCast, Nat.zero_add]
    refine run_lda ag128 ty128 rfl (g.cls hk) ?_
    refine run_st ty128 (i := 0) rfl rfl (by simp [Value.cells, Value.oneCell', sortV]) (by simp [Value.cells]) ?_
    refine run_cell ag128 ty128 (xs := sortV (sortM k)) rfl (cl_all (i := 0) rfl) ?_
    rw [he] at h
    exact run_drop h
  refine known_c ?_
  try simp only [pureE, pureT, Nat.zero_add, Nat.reduceAdd, Bool.not_false, Bool.not_true]
  by_cases hk : 1 ≤ op ∧ op ≤ 25
  · rw [dec_t hk]
    try simp only [pureE, pureT, Nat.zero_add, Nat.reduceAdd, Bool.not_false, Bool.not_true]
    obtain ⟨k, rfl⟩ : ∃ k : Nat, op = (k : Int) := ⟨op.toNat, by omega⟩
    exact fin k (by omega) (by unfold ofI; rw [if_pos hk]; simp)
  · rw [dec_f hk]
    try simp only [pureE, pureT, Nat.zero_add, Nat.reduceAdd, Bool.not_false, Bool.not_true]
    exact fin 0 (by omega) (by unfold ofI; rw [if_neg hk])
theorem name_c {op : Int} (g : Glb W0) (h : Run W0 l (K (.string ⟨(sortM (ofI op)).1.toArray⟩))) : Run W0 l (callS P 48 #[IV op] K pn) := by
  refine r48 ?_
  unfold S48
  refine of_c g ?_
  exact run_nx (.string ⟨(sortM (ofI op)).1.toArray⟩) (fun w => by kernel_rfl) h

def strV (x : List UInt8) : List Value := [.string ⟨x.toArray⟩]
theorem strV_len (x : List UInt8) : (strV x).length = 1 := rfl
theorem strV_one (x : List UInt8) : ∀ u ∈ strV x, u.oneCell' = true := by
  intro u hu
  simp only [strV, List.mem_singleton] at hu
  subst hu; rfl
theorem line2_c {v : Value} {ws : List (List UInt8)} (h0 : ws ≠ []) (hn : ws.length ≤ 4294967296) (hj : (Lib.join ws [32]).length ≤ 140737488355328)
    (h : Run W0 l (K (.string ⟨(Lib.join ws [32] ++ [10]).toArray⟩))) : Run W0 (row 9 1 v ws.length (ws.flatMap strV) :: l) (S33_k2 K pn v) := by
  unfold S33_k2
  refine run_row_cases 0 rfl (fun _ h2 _ => absurd (List.eq_nil_of_length_eq_zero h2) h0) fun b cp hv hnc hcm hxl => ?_
  subst hv
  have hwl : ws.map (fun x => x) = ws := by simp
  refine run_grown (v := .string ⟨(Lib.join ws [32]).toArray⟩) (en51 _) (fun w hw => ?_) (run_drop ?_)
  · have hc := Cls.row (W0 := W0) (l := row 9 1 (.slice (some ⟨b, 0, none⟩) ws.length cp) ws.length (ws.flatMap strV) :: l) (i := 0) rfl w hw
    obtain ⟨F, hF, hf⟩ := hw.get (i := 0) rfl
    have hb : b < w.heap.size := by
      obtain ⟨_, ⟨hv, _⟩ | ⟨b', c', sp, hv, _, _, _, hFb, _⟩⟩ := hf
      · simp at hv
      · simp only [Value.slice.injEq, Option.some.injEq, Addr.mk.injEq] at hv
        obtain ⟨⟨rfl, _⟩, _, _⟩ := hv
        exact (hF b hFb).2
    have key := Tryz.strings_Join b 0 cp (ws.map fun x => (⟨x.toArray⟩ : ByteArray)) ⟨#[32]⟩ w (fun j x hx => by
      rw [List.getElem?_map] at hx
      obtain ⟨y, hy, rfl⟩ := Option.map_eq_some_iff.1 hx
      have := hc j (.string ⟨y.toArray⟩) (by have := flat_get strV_len hy 0 (.string ⟨y.toArray⟩) rfl; simpa using this)
      rw [Addr.add_lit] at this
      exact this) hb (by simp; omega) (by simpa using hnc) (by simpa [List.map_map, Function.comp_def] using hj)
    simp only [List.length_map] at key
    refine key.mono fun e w' ⟨he, hbw⟩ => ⟨?_, grownBy_below hbw⟩
    rw [he]
    simp [List.map_map, Function.comp_def]
  · have hs : ¬ (9223372036854775807 : Int) < ((⟨(Lib.join ws [32]).toArray⟩ : ByteArray).size : Int) + ((⟨#[10]⟩ : ByteArray).size : Int) := by
      simp only [ByteArray.size, List.size_toArray, List.length_singleton]
      omega
    refine run_nx (.string (⟨(Lib.join ws [32]).toArray⟩ ++ ⟨#[10]⟩)) (fun w => by simp [binN, eqGuard, binOp, Op.stringOp, hs]) ?_
    have e : (⟨(Lib.join ws [32]).toArray⟩ : ByteArray) ++ ⟨#[10]⟩ = ⟨(Lib.join ws [32] ++ [10]).toArray⟩ := by
      apply ByteArray.ext
      rw [ByteArray.data_append]
      simp
    rw [← e] at h
    exact h

theorem join_len (ws : List (List UInt8)) (sep : List UInt8) (b : Nat) (h : ∀ w ∈ ws, w.length ≤ b) : (Lib.join ws sep).length ≤ ws.length * (b + sep.length) := by
  induction ws with
  | nil => simp [Lib.join]
  | cons x xs ih =>
    have hx := h x (by simp)
    have hxs := ih fun w hw => h w (by simp [hw])
    cases xs with
    | nil => rw [Lib.join_one]; simp only [List.length_singleton, Nat.one_mul]; omega
    | cons y ys =>
      have e : Lib.join (x :: y :: ys) sep = x ++ sep ++ Lib.join (y :: ys) sep := by
        unfold Lib.join
        rw [List.intercalate_cons_cons]
      rw [e, List.length_append, List.length_append, List.length_cons, Nat.add_mul]
      omega
theorem words_len {k : Nat} {x : M.Ins} (hk : k ≤ 4294967296) (hx : M.RI x) : ∀ w ∈ wordsM k x, w.length ≤ 21 := by
  intro w hw
  have h1 := Lib.itoa_length_le (k : Int) (by omega) (by omega)
  have h2 := Lib.itoa_length_le x.a hx.2.1.1 hx.2.1.2
  have h3 := Lib.itoa_length_le x.n hx.2.2.1 hx.2.2.2
  have h4 := sort_len (ofI x.op)
  unfold wordsM at hw
  simp only [List.mem_append, List.mem_cons, List.not_mem_nil, or_false] at hw
  rcases hw with ((rfl | rfl) | hw) | hw
  · exact h1
  · omega
  · split at hw
    · simp only [List.mem_singleton] at hw; subst hw; exact h2
    · simp at hw
  · split at hw
    · simp only [List.mem_singleton] at hw; subst hw; exact h3
    · simp at hw
theorem words_num (k : Nat) (x : M.Ins) : 2 ≤ (wordsM k x).length ∧ (wordsM k x).length ≤ 4 := by
  unfold wordsM
  simp only [List.length_append]
  constructor
  · simp only [List.length_cons, List.length_nil]; omega
  · split <;> split <;> simp
theorem line_len {k : Nat} {x : M.Ins} (hk : k ≤ 4294967296) (hx : M.RI x) : (Lib.join (wordsM k x) [32]).length ≤ 88 := by
  have h1 := join_len (wordsM k x) [32] 21 (words_len hk hx)
  have h2 := words_num k x
  have h3 : (wordsM k x).length * (21 + [(32 : UInt8)].length) ≤ 4 * 22 := Nat.mul_le_mul h2.2 (by simp)
  omega

theorem strFill (s : List UInt8) : Instr.fill (fun i => some (i * 1, 1)) ((Array.range (1 * 1)).map ((Value.string ⟨#[]⟩).cells[· % (Value.string ⟨#[]⟩).cells.size]!)) [(0, .string ⟨s.toArray⟩)] = some (strV s).toArray := by kernel_rfl
theorem strFill2 (s t : List UInt8) : Instr.fill (fun i => some (i * 1, 1)) ((Array.range (2 * 1)).map ((Value.string ⟨#[]⟩).cells[· % (Value.string ⟨#[]⟩).cells.size]!)) [(0, .string ⟨s.toArray⟩), (1, .string ⟨t.toArray⟩)] = some (strV s ++ strV t).toArray := by kernel_rfl
/-- A word more. -/
theorem word_c {v : Value} {ws : List (List UInt8)} {s : List UInt8} (hn : ws.length ≤ 4294967295)
    (h : ∀ v', Run W0 (row 9 1 v' (ws ++ [s]).length ((ws ++ [s]).flatMap strV) :: l) (K v')) :
    Run W0 (row 9 1 v ws.length (ws.flatMap strV) :: l) (nextS P (V (Instr.buildSlice 126 1 #[(0, .string ⟨s.toArray⟩)])) (fun x => nextS P (bltN .append #[126, 126] 126 #[false, false] #[v, x]) K pn) pn) := by
  refine run_buildSlice (strV s) un126 ty9 (by omega) (by omega) (strFill s) fun b => ?_
  refine run_append 1 un126 ty9 rfl rfl (Rd.pt (i := 0) rfl 1 (by simp [strV])) (strV_one _) (by unfold maxLen; omega) (by omega) (by omega) fun v' _ => ?_
  refine run_drop ?_
  refine run_to (row 9 1 v' (ws ++ [s]).length ((ws ++ [s]).flatMap strV) :: l) (fun w hw => ?_) (h v')
  simpa [List.flatMap_append] using hw

theorem and_c2 {a b : Int} {x y : Operand} (h : Run W0 l (K (.bool (IntKind.i64.wrap (BitVec.ofInt 64 a &&& BitVec.ofInt 64 b).toNat != 0)))) {x2 y2 : Operand} :
    Run W0 l (nextS P (binN .and 3 x y (IV a) (IV b)) (fun v => nextS P (binN .neq 3 x2 y2 v (IV 0)) K pn) pn) := by
  refine run_nx _ (fun w => pv_and) ?_
  refine run_nx _ (fun w => pv_neq) ?_
  exact h
theorem line_c {x : M.Ins} {k : Nat} (hk : k ≤ 4294967296) (hx : M.RI x) (g : Glb W0) (h : Run W0 l (K (.string ⟨(lineM k x).toArray⟩))) : Run W0 l (callS P 33 #[insA x, IV k] K pn) := by
  refine r33 ?_
  unfold S33
  refine run_box fun b => ?_
  have hrk : M.R k := ⟨by omega, by omega⟩
  refine run_draw (pt b 69 (insV x) :: l) (fun _ hw => hw) ?_
  try simp only [pureE, pureT, Nat.zero_add, Nat.reduceAdd, Bool.not_false, Bool.not_true]
  refine take_ld sc3 (cl1 (i := 0) rfl rfl) ?_
  refine itoa_c hrk g (run_and (fun _ hw => hw) ?_)
  refine name_c g (run_and (fun _ hw => hw) ?_)
  refine run_buildSlice (strV (Lib.itoa k) ++ strV (sortM (ofI x.op)).1) un126 ty9 (by omega) (by omega) (strFill2 _ _) fun b2 => (run_and (fun _ hw => hw.tail) ?_)
  try simp only [pureE, pureT, Nat.zero_add, Nat.reduceAdd, Bool.not_false, Bool.not_true]
  refine run_rowOfPt 0 1 2 rfl (by simp [strV]) (by unfold maxLen; omega) ?_
  have hj := line_len hk hx
  have hw0 := words_num k x
  -- behind the first test
  have fin : ∀ v (ws : List (List UInt8)), ws ++ (if hasB x.op 2 then [Lib.itoa x.n] else []) = wordsM k x → Run W0 (row 9 1 v ws.length (ws.flatMap strV) :: pt b 69 (insV x) :: l) (S33_k1 K pn (Ptr b) v) := by
    intro v ws hws
    unfold S33_k1
    try simp only [pureE, pureT, Nat.zero_add, Nat.reduceAdd, Bool.not_false, Bool.not_true]
    refine run_ld sc3 (cl1 (i := 1) rfl rfl) ?_
    refine of_c g ?_
    refine run_nx (IV (sortM (ofI x.op)).2.2.2.2) (fun w => by kernel_rfl) ?_
    refine and_c2 ?_
    have hlen := congrArg List.length hws
    rw [List.length_append] at hlen
    have hd : (IntKind.i64.wrap (BitVec.ofInt 64 (sortM (ofI x.op)).2.2.2.2 &&& BitVec.ofInt 64 2).toNat != 0) = hasB x.op 2 := rfl
    rw [hd]
    cases hb : hasB x.op 2
    · rw [hb] at hws
      simp only [Bool.false_eq_true, if_false, List.append_nil] at hws
      subst hws
      try simp only [pureE, pureT, Nat.zero_add, Nat.reduceAdd, Bool.not_false, Bool.not_true]
      refine line2_c (fun e => by rw [e] at hw0; simp at hw0) (by omega) (by omega) ?_
      exact run_drop h
    · rw [hb] at hws
      simp only [if_true] at hws
      try simp only [pureE, pureT, Nat.zero_add, Nat.reduceAdd, Bool.not_false, Bool.not_true]
      refine run_ld sc2 (cl1 (i := 1) rfl rfl) ?_
      refine format_c hx.2.2 g ?_
      refine word_c (by omega) fun v' => ?_
      rw [hws]
      refine line2_c (fun e => by rw [e] at hw0; simp at hw0) (by omega) (by omega) ?_
      exact run_drop h
  refine run_ld sc3 (cl1 (i := 1) rfl rfl) ?_
  refine of_c g ?_
  refine run_nx (IV (sortM (ofI x.op)).2.2.2.2) (fun w => by kernel_rfl) ?_
  refine and_c2 ?_
  have hd : (IntKind.i64.wrap (BitVec.ofInt 64 (sortM (ofI x.op)).2.2.2.2 &&& BitVec.ofInt 64 1).toNat != 0) = hasB x.op 1 := rfl
  rw [hd]
  cases hb : hasB x.op 1
  · try simp only [pureE, pureT, Nat.zero_add, Nat.reduceAdd, Bool.not_false, Bool.not_true]
    exact fin _ [Lib.itoa k, (sortM (ofI x.op)).1] (by unfold wordsM; rw [hb]; simp)
  · try simp only [pureE, pureT, Nat.zero_add, Nat.reduceAdd, Bool.not_false, Bool.not_true]
    refine run_ld sc3 (cl1 (i := 1) rfl rfl) ?_
    refine itoa_c hx.2.1 g ?_
    refine word_c (ws := [Lib.itoa k, (sortM (ofI x.op)).1]) (by simp) fun v' => ?_
    exact fin v' _ (by unfold wordsM; rw [hb]; simp)

theorem text_len : ∀ {xs : List M.Ins} {k : Nat}, k + xs.length ≤ 4294967296 → (∀ x ∈ xs, M.RI x) → (textM k xs).length ≤ xs.length * 89
  | [], k, _, _ => by simp [textM]
  | x :: xs, k, hk, hx => by
    have h1 := line_len (k := k) (by simp only [List.length_cons] at hk; omega) (hx x (by simp))
    have h2 := text_len (xs := xs) (k := k + 1) (by simp only [List.length_cons] at hk; omega) fun y hy => hx y (by simp [hy])
    simp only [textM, lineM, List.length_append, List.length_cons, List.length_nil]
    omega
theorem text_app (x : M.Ins) : ∀ (xs : List M.Ins) (k : Nat), textM k (xs ++ [x]) = textM k xs ++ lineM (k + xs.length) x
  | [], k => by simp [textM]
  | y :: xs, k => by
    simp only [List.cons_append, textM, text_app x xs (k + 1), List.append_assoc, List.length_cons]
    rw [show k + 1 + xs.length = k + (xs.length + 1) by omega]
theorem text_ne : ∀ {xs : List M.Ins} {k : Nat}, xs ≠ [] → textM k xs ≠ []
  | [], _, h => absurd rfl h
  | x :: xs, k, _ => by simp [textM, lineM]
theorem text_c {v : Value} {n : Nat} {xs : List M.Ins} (g : Glb W0) (hr : Rd W0 l 3 v n (insC xs)) (hn : n ≤ 4294967296) (hx : ∀ x ∈ xs, M.RI x) (h : Run W0 l (K (.string ⟨(textM 0 xs).toArray⟩))) : Run W0 l (callS P 14 #[v] K pn) := by
  refine r14 ?_
  unfold S14
  have hl : xs.length = n := rd_len insV_len (by omega) hr
  obtain ⟨a, c, rfl, h1, h2, h3⟩ := hr.form
  refine run_alloc ty98 fun b => ?_
  try simp only [pureE, pureT, Nat.zero_add, Nat.reduceAdd, Bool.not_false, Bool.not_true]
  by_cases h0 : n = 0
  · -- nothing is written
    subst h0
    have hxs : xs = [] := List.eq_nil_of_length_eq_zero hl
    subst hxs
    refine run_loop (Inv := fun s : Nat => s = 0) (J := fun s => [Ptr b, .slice a 0 c, IV 0, IV s]) (H := fun _ => pt b 98 [.pointer none, .slice none 0 0] :: l) (μ := fun _ => 0) 0 rfl rfl (fun _ hw => hw) ?_
    rintro s e rfl he
    simp only [List.map_cons, List.map_nil, List.cons.injEq, and_true] at he
    obtain ⟨e3, e6, e7, e8⟩ := he
    unfold S14_l1
    simp only [e3, e6, e7, e8]
    try simp only [pureE, pureT, Nat.zero_add, Nat.reduceAdd, Bool.not_false, Bool.not_true]
    rw [dec_f (show ¬ ((0 : Nat) : Int) < 0 by omega)]
    try simp only [pureE, pureT, Nat.zero_add, Nat.reduceAdd, Bool.not_false, Bool.not_true]
    refine r34 ?_
    unfold S34
    refine run_draw [pt b 98 [.pointer none, .slice none 0 0]] (fun w hw => hw.head) ?_
    try simp only [pureE, pureT, Nat.zero_add, Nat.reduceAdd, Bool.not_false, Bool.not_true]
    refine take_ld sc96 (cl1 (i := 0) rfl rfl) ?_
    refine run_tk (.pointer none) (fun w => ?_) ?_
    · have := Lib.run_unsafeSliceData_nil (P := P) (w := w) #[96] 132 0 0
      simp only [bltN, builtin, Sem.run_bind, this, Result.andThen_ok]; rfl
    refine take_ld sc96 (cl1 (i := 0) rfl rfl) ?_
    refine run_tk _ (fun w => pv_len un96) ?_
    refine run_val (.string ⟨#[]⟩) (fun w hw => ?_) ?_
    · have := Lib.run_unsafeString_none (P := P) w 132 3 9 none
      simp only [bltN, builtin, Sem.run_bind, this, Result.andThen_ok]; rfl
    · refine run_and (fun w hw => hw.head) ?_
      exact run_drop h
  have hb0 : ∀ c : C, Run W0 (bldA b (byteC (textM 0 (xs.take 0))) :: l) c → Run W0 (pt b 98 [.pointer none, .slice none 0 0] :: l) c := by
    intro c h
    refine h.of fun w hw => ?_
    have h4 : St W0 (row 5 1 (.slice none 0 0) 0 [] :: pt b 98 [.pointer none, .slice none 0 0] :: l) w := hw.new ⟨rfl, rfl, rfl, Nat.le_refl _, fun _ _ _ => rfl⟩ (fun _ => False) (fun _ hx => hx.elim) ⟨by simp, .inl ⟨rfl, rfl, fun _ hx => hx⟩⟩
    have h5 : St W0 (pur ((.pointer none : Value) = .pointer none ∨ (.pointer none : Value) = Ptr b) :: row 5 1 (.slice none 0 0) 0 [] :: pt b 98 [.pointer none, .slice none 0 0] :: l) w := h4.new ⟨rfl, rfl, rfl, Nat.le_refl _, fun _ _ _ => rfl⟩ (fun _ => False) (fun _ hx => hx.elim) (.inl rfl)
    have h6 : St W0 (bldPs b [] (.pointer none, .slice none 0 0) ++ l) w := ((h5.front 1).front 2 : St W0 _ w)
    exact h6.pack fun F hs => ⟨_, hs⟩
  refine hb0 _ ?_
  refine run_loop (Inv := fun s : Nat => s ≤ n) (J := fun s => [Ptr b, .slice a n c, IV n, IV s]) (H := fun s => bldA b (byteC (textM 0 (xs.take s))) :: l) (μ := fun s => n - s) 0 (by omega) rfl (fun _ hw => hw) ?_
  intro s e hs he
  simp only [List.map_cons, List.map_nil, List.cons.injEq, and_true] at he
  obtain ⟨e3, e6, e7, e8⟩ := he
  unfold S14_l1
  simp only [e3, e6, e7, e8]
  try simp only [pureE, pureT, Nat.zero_add, Nat.reduceAdd, Bool.not_false, Bool.not_true]
  by_cases hlt : s < n
  · rw [dec_t (show (s : Int) < n by omega)]
    try simp only [pureE, pureT, Nat.zero_add, Nat.reduceAdd, Bool.not_false, Bool.not_true]
    obtain ⟨x, hxs⟩ : ∃ x, xs[s]? = some x := ⟨_, List.getElem?_eq_getElem (by omega)⟩
    refine run_rd_idx un36 ty69 insV_len (by omega) hr s hxs fun b1 o1 hc => ?_
    refine run_lda ag69 ty69 rfl (hc.mono fun _ hw => hw.tail) ?_
    refine run_alloc ty69 fun b2 => ?_
    refine run_st ty69 (i := 0) rfl rfl (by simp [Value.cells, insV, Value.oneCell']) (by simp [Value.cells]) ?_
    refine run_lda ag69 ty69 (xs := insV x) rfl (cl_all (i := 0) rfl) ?_
    have hrx := hx x (List.mem_of_getElem? hxs)
    refine line_c (by omega) hrx g ?_
    have hll := line_len (k := s) (by omega) hrx
    have htl := text_len (xs := xs.take s) (k := 0) (by rw [List.length_take]; omega) fun y hy => hx y (List.mem_of_mem_take hy)
    have htl2 : (xs.take s).length ≤ n := by rw [List.length_take]; omega
    refine write_c (i := 1) (cs := byteC (textM 0 (xs.take s))) (s := ⟨(lineM s x).toArray⟩) rfl ?_ fun r => ?_
    · rw [byteC_len]
      simp only [ByteArray.size, List.size_toArray, lineM, List.length_append, List.length_cons, List.length_nil]
      omega
    try simp only [pureE, pureT, Nat.zero_add, Nat.reduceAdd, Bool.not_false, Bool.not_true]
    rw [wrN (x := (s : Int) + 1) (s + 1) (by omega) (by omega)]
    refine run_drop ?_
    have hnew : byteC (textM 0 (xs.take s)) ++ Lib.strCells ⟨(lineM s x).toArray⟩ = byteC (textM 0 (xs.take (s + 1))) := by
      rw [List.take_add_one, hxs, Option.toList_some, text_app, strCells_eq]
      unfold byteC
      rw [List.map_append]
      simp only [List.length_take, Nat.zero_add]
      rw [show min s xs.length = s by omega]
    rw [hnew]
    exact fun w hw => ⟨s + 1, by omega, by omega, rfl, hw⟩
  · rw [dec_f (show ¬ (s : Int) < n by omega)]
    try simp only [pureE, pureT, Nat.zero_add, Nat.reduceAdd, Bool.not_false, Bool.not_true]
    rw [List.take_of_length_le (by omega)]
    refine string_c (i := 0) rfl (text_ne fun e => by rw [e] at hl; simp at hl; omega) ?_
    exact h
end
end Go.Proofs.YtkonigmefmgepaaGreatDoor
