/- Contracts: the builder of strings (own work). -/
import Derived.Test.YtkonigmefmgepaaDoorW15
import Derived.Lib.Builder
import Derived.Lib.AppendStr
import Derived.Lib.UnsafeStr
namespace Go.Proofs.YtkonigmefmgepaaDoor
open Go.RowKit
set_option linter.unusedVariables false
set_option linter.unusedSimpArgs false
section
variable {W0 : World} {l : List As} {K : Value → C} {pn : Pn}
theorem noesc (a : Value) (w : World) : (callFunc 53 #[a]).run P w = .ok (.value a) w := by kernel_rfl
theorem run_ext {f : FuncId} {args : Array Value} {v : Value} (h : ∀ w, (callFunc f args).run P w = .ok (.value v) w) (hk : Run W0 l (K v)) : Run W0 l (callS P f args K pn) :=
  fun w hw => ⟨⟨by rw [h w]; exact hk w hw⟩⟩

theorem un122' : P.underlying 122 = some .unsafePointer := by kernel_rfl
theorem eqSelf (b : Nat) (w : World) {x y : Operand} : (binN .neq 79 x y (Ptr b) (Ptr b)).run P w = .ok (.value (.bool false)) w := by
  have e : (Op.equal 79 (Ptr b) (Ptr b)).run P w = .ok true w := by
    show (Op.equalIn (9999 + 1) 79 _ _).run P w = _
    obtain ⟨j, hj, h1, _, _⟩ := tyI_spec ty82
    rw [Op.equalIn]
    simp [run_underlying un79, sizeOf, typeInfo, hj, h1, sameAddr]
  simp [binN, eqGuard, binOp, e]
theorem copyCheck_c {i b : Nat} {p v : Value} (hp : p = .pointer none ∨ p = Ptr b) (hi : l[i]? = some (pt b 82 [p, v])) (h : Run W0 (l.set i (pt b 82 [Ptr b, v])) (K (.tuple #[]))) : Run W0 l (callS P 42 #[Ptr b] K pn) := by
  refine r42 ?_
  unfold S42
  try simp only [pureE, pureT, Nat.zero_add, Nat.reduceAdd, Bool.not_false, Bool.not_true]
  refine run_ld sc79 (cl1 hi rfl) ?_
  obtain ⟨j, hj, h1, _, _⟩ := tyI_spec ty82
  rcases hp with rfl | rfl
  · refine run_nx (.bool true) (fun w => pv_eqlPN un79) ?_
    try simp only [pureE, pureT, Nat.zero_add, Nat.reduceAdd, Bool.not_false, Bool.not_true]
    refine run_val (Ptr b) (fun w hw => ?_) ?_
    · have hb := (hw.pt hi).1
      have := Lib.run_to_unsafe (P := P) (w := w) (src := 79) (dst := 122) (e := 82) (cells := 2) ⟨b, 0, none⟩ un79 un122' hj (by rw [h1]; omega) (by simp [World.shape?, hb]) (by simp)
      simp only [V, Sem.run_bind, this, Result.andThen_ok]; rfl
    refine run_ext (noesc _) ?_
    refine run_val (Ptr b) (fun w hw => ?_) ?_
    · have hb := (hw.pt hi).1
      have := Lib.run_from_unsafe (P := P) (w := w) (src := 122) (dst := 79) (e := 82) (cells := 2) ⟨b, 0, none⟩ un122' un79 hj (by simp [World.shape?, hb]) (by kernel_rfl)
      simp only [V, Sem.run_bind, this, Result.andThen_ok]; rfl
    try simp only [pureE, pureT, Nat.zero_add, Nat.reduceAdd, Bool.not_false, Bool.not_true]
    refine run_st ty79 hi rfl (by simp [Value.cells, Value.oneCell']) (by simp) ?_
    exact h
  · refine run_nx (.bool false) (fun w => pv_eqlPN un79) ?_
    try simp only [pureE, pureT, Nat.zero_add, Nat.reduceAdd, Bool.not_false, Bool.not_true]
    refine run_ld sc79 (cl1 hi rfl) ?_
    refine run_nx _ (fun w => eqSelf b w) ?_
    try simp only [pureE, pureT, Nat.zero_add, Nat.reduceAdd, Bool.not_false, Bool.not_true]
    rw [row_set_id i hi] at h
    exact h

/-- 'append' of a string's bytes onto an owned row of bytes. -/
theorem run_append_str {P : Program} {t u ty E : TypeId} {cons : Array Bool} {z : Value} (i : Nat) {v : Value} {n : Nat} {xs : List Value} {s : ByteArray} (ht : P.underlying t = some (.slice E)) (hu : P.underlying u = some .string) (hs : tyI P E = some (1, 1, some z)) (hz : z.cells.size = 1)
    (hi : l[i]? = some (row E 1 v n xs)) (hm : n + s.size ≤ 140737488355328)
    (hk : ∀ v', Run W0 (l.set i (row E 1 v' (n + s.size) (xs ++ Lib.strCells s))) (K v')) : Run W0 l (nextS P (bltN .append #[t, u] ty cons #[v, .string s]) K pn) := by
  obtain ⟨inf, hinf, hsz, hbt, hzz⟩ := tyI_spec hs
  refine run_turn fun w hw => ?_
  have key : ∀ {v' : Value} {w' : World}, (Builtin.append_ #[t, u] ty #[v, .string s]).run P w = .ok v' w' → (bltN .append #[t, u] ty cons #[v, .string s]).run P w = .ok (.value v') w' := fun h => by
    simp only [bltN, builtin, Sem.run_bind, h, Result.andThen_ok]; rfl
  obtain ⟨hlen, hrow⟩ := hw.row hi
  have hsl := Lib.strCells_length s
  have grow : ∀ (old : Nat), old < n + s.size → St W0 (l.set i (row E 1 (.slice (some ⟨w.heap.size, 0, none⟩) (n + s.size) (grownCap w (n + s.size) old E)) (n + s.size) (xs ++ Lib.strCells s)))
      (w.drew.alloc (.cells (xs.toArray ++ (Lib.strCells s).toArray ++ Builtin.zeroCells z.cells (grownCap w (n + s.size) old E - (n + s.size))) E)) := by
    intro old ho
    have hge := grownCap_ge w (n + s.size) old E
    have hle := grownCap_le_maxLen w (n + s.size) old E (by unfold maxLen; omega)
    refine hw.upd hi (.inr ⟨rfl, rfl, rfl, by simp⟩) fun F hF hf => ⟨fun y hy _ => heap_alloc_old w.drew _ y hy, fun y => y = w.heap.size, fun y hy => .inr (by subst hy; simp), ?_, .inr ⟨w.heap.size, _, (Builtin.zeroCells z.cells (grownCap w (n + s.size) old E - (n + s.size))).toList, rfl, hge, hle, ?_, rfl, fun y hy => hy, ?_⟩⟩
    · rw [List.length_append, hlen, hsl]; omega
    · simp only [List.length_append, hlen, hsl, Array.length_toList, size_zeroCells, hz]; omega
    · have := heap_alloc_new w.drew (.cells (xs.toArray ++ (Lib.strCells s).toArray ++ Builtin.zeroCells z.cells (grownCap w (n + s.size) old E - (n + s.size))) E)
      rw [show w.drew.heap.size = w.heap.size from rfl] at this
      rw [this]
      congr 2
      apply Array.ext'
      simp [List.append_assoc]
  rcases hrow with ⟨rfl, rfl⟩ | ⟨b, cp, sp, rfl, h2, h3, h4, h5⟩
  · have hxs : xs = [] := by simpa using hlen
    subst hxs
    by_cases h0 : s.size = 0
    · have hs0 : Lib.strCells s = [] := List.eq_nil_of_length_eq_zero (by rw [hsl, h0])
      refine ⟨_, w, _, key (v' := .slice none 0 0) ?_, ?_, hk (.slice none 0 0)⟩
      · simp [Builtin.append_, run_underlying ht, run_underlying hu, sizeOf, typeInfo, hinf, Builtin.lenOf, h0, Builtin.firstCells]
      · rw [hs0, h0]
        simpa using hw.upd hi (A' := row E 1 (.slice none 0 0) 0 []) (.inr ⟨rfl, rfl, rfl, Nat.le_refl _⟩) fun F hF hf => ⟨fun _ _ _ => rfl, F, fun x hx => .inl hx, hf⟩
    · have hr := run_append_nil_string (P := P) w t u ty E inf z ht hu hinf hzz s (by omega) (by omega) (by rw [hbt]; omega)
      have hg := grow 0 (by omega)
      simp only [Nat.zero_add, List.nil_append] at hg
      have hk' := hk (.slice (some ⟨w.heap.size, 0, none⟩) s.size (grownCap w s.size 0 E))
      simp only [Nat.zero_add, List.nil_append] at hk'
      refine ⟨_, _, _, key hr, ?_, hk'⟩
      have e : (s.data.map (fun b => Value.int .u8 b.toNat) : Array Value) = ([] : List Value).toArray ++ (Lib.strCells s).toArray := by
        apply Array.ext'
        simp [Lib.strCells]
      rw [e]
      exact hg
  · by_cases hroom : n + s.size ≤ cp
    · have hfit : n + s.size ≤ (xs ++ sp).toArray.size := by rw [List.size_toArray, h4]; omega
      have hr := Lib.run_append_room_string (P := P) (w := w) t u ty E inf ht hu hinf hsz b n cp (xs ++ sp).toArray h5 s hroom hfit
      refine ⟨_, _, _, key hr, ?_, hk _⟩
      refine hw.upd hi (.inr (setRow_grown w b _)) fun F hF hf => ?_
      obtain ⟨_, ⟨hv, _⟩ | ⟨b', c', sp', hv, _, _, _, hFb, hFo, _⟩⟩ := hf
      · simp at hv
      · simp only [Value.slice.injEq, Option.some.injEq, Addr.mk.injEq] at hv
        obtain ⟨⟨rfl, _⟩, _, rfl⟩ := hv
        refine ⟨fun y hy hn => setRow_other w b y _ (fun e => hn (e ▸ hFb)), F, fun y hy => .inl hy, ?_, .inr ⟨b, cp, (xs ++ sp).drop (n + s.size), rfl, hroom, h3, ?_, hFb, hFo, ?_⟩⟩
        · rw [List.length_append, hlen, hsl]; omega
        · rw [List.size_toArray] at hfit
          simp only [List.length_append, List.length_drop, hsl] at h4 hfit ⊢
          omega
        · have := setRow_heap w b _ ((xs ++ sp).take n ++ Lib.strCells s ++ (xs ++ sp).drop (n + s.size)).toArray E (0, 0) h5
          rw [this]
          congr 2
          rw [show n = xs.length by omega, List.take_left']
          rfl
    · have holds : ∀ j u, xs[j]? = some u → w.cell? ((⟨b, 0, none⟩ : Addr).add j) = some u := fun j u hj => by
        have hlt : j < xs.length := (List.getElem?_eq_some_iff.1 hj).1
        rw [Addr.add_lit]
        simp [World.cell?, h5, List.getElem?_append_left hlt, hj]
      have hfit := growslice_fits (need := n + s.size) (old := cp) (bytes := inf.bytes) (by omega) (by rw [hbt]; omega)
      have hr := Lib.run_append_grow_string (P := P) (w := w) t u ty E inf z ht hu hinf hzz ⟨b, 0, none⟩ n cp xs (by rw [hsz]; exact hlen) holds s (by omega) (by omega) hfit
      exact ⟨_, _, _, key hr, grow cp (by omega), hk _⟩

def bldPs (b : Nat) (cs : List Value) (x : Value × Value) : List As := [pt b 82 [x.1, x.2], row 5 1 x.2 cs.length cs, pur (x.1 = .pointer none ∨ x.1 = Ptr b)]
/-- A builder that holds these bytes. -/
def bldA (b : Nat) (cs : List Value) : As := obj (bldPs b cs)

theorem write_c {i b : Nat} {cs : List Value} {s : ByteArray} (hi : l[i]? = some (bldA b cs)) (hm : cs.length + s.size ≤ 140737488355328)
    (h : ∀ r, Run W0 (l.set i (bldA b (cs ++ Lib.strCells s))) (K r)) : Run W0 l (callS P 31 #[Ptr b, .string s] K pn) := by
  refine r31 ?_
  unfold S31
  refine run_open i hi fun x => ?_
  refine run_pur 2 rfl fun hp => ?_
  refine copyCheck_c (i := 0) hp rfl ?_
  try simp only [pureE, pureT, Nat.zero_add, Nat.reduceAdd, Bool.not_false, Bool.not_true]
  refine run_ld sc80 (cl1 (i := 0) rfl rfl) ?_
  refine run_append_str 1 un80 un9 ty5 rfl rfl hm fun v' => ?_
  refine run_row_rd 1 rfl fun hrd => ?_
  obtain ⟨a2, c2, hv2, _, _, _⟩ := hrd.form
  subst hv2
  try simp only [pureE, pureT, Nat.zero_add, Nat.reduceAdd, Bool.not_false, Bool.not_true]
  refine run_st ty80 (i := 0) rfl rfl (by simp [Value.cells, Value.oneCell']) (by simp) ?_
  refine run_setPur 2 (Ptr b = .pointer none ∨ Ptr b = Ptr b) rfl (.inr rfl) ?_
  refine run_to (bldPs b (cs ++ Lib.strCells s) (Ptr b, .slice a2 (cs.length + s.size) c2) ++ l.eraseIdx i) (fun w hw => ?_) (run_shut l i _ hi (h _))
  unfold bldPs
  rw [List.length_append, Lib.strCells_length]
  exact hw

theorem St.freeze {w : World} (h : St W0 l w) {i : Nat} {E sz g n c xs} (hi : l[i]? = some (Proofs.YtkonigmefmgepaaDoor.row E sz (.slice (some ⟨g, 0, none⟩) n c) n xs)) (m : Nat) : St W0 (l.set i (pur True)) (w.freeze ⟨g, 0, none⟩ m) := by
  have hf : ∀ k, k ≠ g → (w.freeze ⟨g, 0, none⟩ m).heap[k]? = w.heap[k]? := by
    intro k hk
    unfold World.freeze
    split
    · rfl
    · simp only [Array.getElem?_modify]; rw [if_neg (fun e => hk e.symm)]
  have hs : (w.freeze ⟨g, 0, none⟩ m).os = w.os ∧ (w.freeze ⟨g, 0, none⟩ m).tape = w.tape ∧ (w.freeze ⟨g, 0, none⟩ m).output = w.output ∧ w.heap.size ≤ (w.freeze ⟨g, 0, none⟩ m).heap.size := by
    unfold World.freeze
    split
    · exact ⟨rfl, rfl, rfl, Nat.le_refl _⟩
    · exact ⟨rfl, rfl, rfl, by simp⟩
  refine h.upd hi (.inr hs) fun F hF ⟨_, hf2⟩ => ⟨fun k hk hn => hf k fun e => ?_, fun _ => False, fun _ hx => hx.elim, trivial⟩
  rcases hf2 with ⟨hv, _⟩ | ⟨b', c', sp, hv, _, _, _, hFb, _⟩
  · simp at hv
  · simp only [Value.slice.injEq, Option.some.injEq, Addr.mk.injEq] at hv
    obtain ⟨⟨rfl, _⟩, _, _⟩ := hv
    exact hn (e ▸ hFb)

def byteC (bs : List UInt8) : List Value := bs.map fun x => Value.int .u8 (x.toNat : Int)
theorem byteC_len (bs : List UInt8) : (byteC bs).length = bs.length := by simp [byteC]
theorem strCells_eq (s : ByteArray) : Lib.strCells s = byteC s.data.toList := rfl

theorem string_c {i b : Nat} {bs : List UInt8} (hi : l[i]? = some (bldA b (byteC bs))) (h0 : bs ≠ []) (h : Run W0 (l.eraseIdx i) (K (.string ⟨bs.toArray⟩))) : Run W0 l (callS P 33 #[Ptr b] K pn) := by
  refine r33 ?_
  unfold S33
  have hpos : 0 < bs.length := List.length_pos_iff.2 h0
  refine run_open i hi fun x => ?_
  refine run_row_cases 1 rfl (fun _ h2 _ => absurd h2 (by rw [byteC_len]; omega)) fun g cp hv hnc hcm hxl => ?_
  obtain ⟨p, v⟩ := x
  simp only at hv
  subst hv
  refine run_draw [pt b 82 [p, .slice (some ⟨g, 0, none⟩) (byteC bs).length cp]] (fun w hw => hw.head) ?_
  try simp only [pureE, pureT, Nat.zero_add, Nat.reduceAdd, Bool.not_false, Bool.not_true]
  refine take_ld sc80 (cl1 (i := 0) rfl rfl) ?_
  refine run_tk (.pointer (some ⟨g, 0, none⟩)) (fun w => ?_) ?_
  · have := Lib.run_unsafeSliceData_row (P := P) (w := w) #[80] 114 ⟨g, 0, none⟩ (byteC bs).length cp (by rw [byteC_len] at hnc; omega)
    simp only [bltN, builtin, Sem.run_bind, this, Result.andThen_ok]; rfl
  refine take_ld sc80 (cl1 (i := 0) rfl rfl) ?_
  refine run_tk _ (fun w => pv_len un80) ?_
  have hce : P.cellsOf 5 = 1 := by kernel_rfl
  refine run_turn fun w hw => ⟨.string ⟨bs.toArray⟩, w.freeze ⟨g, 0, none⟩ bs.length, (bldPs b (byteC bs) (p, .slice (some ⟨g, 0, none⟩) (byteC bs).length cp) ++ l.eraseIdx i).set 1 (pur True), ?_, hw.freeze (i := 1) rfl _, ?_⟩
  · obtain ⟨_, ⟨h1, _⟩ | ⟨b', c', sp, h1, h2, h3, h4, h5⟩⟩ := hw.row (i := 1) (E := 5) (sz := 1) (v := .slice (some ⟨g, 0, none⟩) (byteC bs).length cp) (n := (byteC bs).length) (xs := byteC bs) rfl
    · simp at h1
    simp only [Value.slice.injEq, Option.some.injEq, Addr.mk.injEq] at h1
    obtain ⟨⟨rfl, _⟩, _, rfl⟩ := h1
    have hU := Lib.run_unsafeString_row (P := P) w 114 3 9 5 un114 hce g (byteC bs ++ sp).length (by simp [World.shape?, h5]) bs h0 (by simp [byteC]) (by rw [byteC_len] at hnc; unfold maxLen at hcm; omega) (fun j x hx => by
      rw [Addr.add_lit]
      have : (byteC bs ++ sp)[j]? = some (.int .u8 (x.toNat : Int)) := by
        rw [List.getElem?_append_left (by rw [byteC_len]; exact (List.getElem?_eq_some_iff.1 hx).1)]
        simp [byteC, hx]
      simp [World.cell?, h5, this])
    rw [byteC_len]
    simp only [bltN, builtin, Sem.run_bind, hU, Result.andThen_ok]; rfl
  · refine run_and (fun w hw => hw.head) ?_
    exact run_drop (run_drop (run_drop h))
end
end Go.Proofs.YtkonigmefmgepaaDoor
