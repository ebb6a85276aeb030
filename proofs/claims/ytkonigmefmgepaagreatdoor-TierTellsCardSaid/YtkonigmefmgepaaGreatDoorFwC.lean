/- The operations over pieces of memory (own work, over the kit's run equations). -/
import Derived.Test.YtkonigmefmgepaaGreatDoorFwB
import Derived.Great.BuildSlice
import Derived.Conc.SmallLaws
import Derived.Laws.IdiomCopy
namespace Go.Proofs.YtkonigmefmgepaaGreatDoor
open Go.RowKit
set_option linter.unusedVariables false

/-! ### Pieces -/
/-- Block b is a row of cells. -/
def pt (b : Nat) (T : TypeId) (cs : List Value) : As where
  f F w := F b ∧ (∀ x, F x → x = b) ∧ w.heap[b]? = some (.cells cs.toArray T (0, 0))
  loc F w w' hk h := ⟨h.1, h.2.1, by rw [hk b h.1]; exact h.2.2⟩
def mp (b : Nat) (es : List MapEntry) (clk : Nat) : As where
  f F w := F b ∧ (∀ x, F x → x = b) ∧ w.heap[b]? = some (.map es.toArray clk)
  loc F w w' hk h := ⟨h.1, h.2.1, by rw [hk b h.1]; exact h.2.2⟩
def ch (b cap : Nat) (buf : List Value) (s r : Nat) : As where
  f F w := F b ∧ (∀ x, F x → x = b) ∧ w.heap[b]? = some (.chan cap buf.toArray false s r false)
  loc F w w' hk h := ⟨h.1, h.2.1, by rw [hk b h.1]; exact h.2.2⟩
/-- The slice v owns its array: n elements (sz cells each), the cells xs, whatever spare there is behind. -/
def row (E : TypeId) (sz : Nat) (v : Value) (n : Nat) (xs : List Value) : As where
  f F w := xs.length = n * sz ∧ ((v = .slice none 0 0 ∧ n = 0 ∧ ∀ x, ¬ F x) ∨
    ∃ b c sp, v = .slice (some ⟨b, 0, none⟩) n c ∧ n ≤ c ∧ c ≤ maxLen ∧ (xs ++ sp).length = c * sz ∧ F b ∧ (∀ x, F x → x = b) ∧ w.heap[b]? = some (.cells (xs ++ sp).toArray E (0, 0)))
  loc F w w' hk h := by
    refine ⟨h.1, ?_⟩
    rcases h.2 with h | ⟨b, c, sp, h1, h2, h3, h4, h5, h6, h7⟩
    · exact .inl h
    · exact .inr ⟨b, c, sp, h1, h2, h3, h4, h5, h6, by rw [hk b h5]; exact h7⟩
/-- Something that is there for some x. -/
def aex {α : Type} (B : α → As) : As where
  f F w := ∃ x, (B x).f F w
  loc F w w' hk h := h.imp fun x hx => (B x).loc F w w' hk hx

section
variable {W0 : World} {l : List As} {w : World} {P : Program} {K : Value → C} {pn : Pn}

theorem St.pt (h : St W0 l w) {i : Nat} {b T cs} (hi : l[i]? = some (pt b T cs)) : w.heap[b]? = some (.cells cs.toArray T (0, 0)) ∧ W0.heap.size ≤ b := by
  obtain ⟨F, hF, h1, h2, h3⟩ := h.get hi; exact ⟨h3, (hF b h1).1⟩
theorem St.mp (h : St W0 l w) {i : Nat} {b es clk} (hi : l[i]? = some (mp b es clk)) : w.heap[b]? = some (.map es.toArray clk) := by
  obtain ⟨F, hF, h1, h2, h3⟩ := h.get hi; exact h3
theorem St.ch (h : St W0 l w) {i : Nat} {b cap buf s r} (hi : l[i]? = some (ch b cap buf s r)) : w.heap[b]? = some (.chan cap buf.toArray false s r false) := by
  obtain ⟨F, hF, h1, h2, h3⟩ := h.get hi; exact h3
theorem St.row (h : St W0 l w) {i : Nat} {E sz v n xs} (hi : l[i]? = some (row E sz v n xs)) : xs.length = n * sz ∧ ((v = .slice none 0 0 ∧ n = 0) ∨
    ∃ b c sp, v = .slice (some ⟨b, 0, none⟩) n c ∧ n ≤ c ∧ c ≤ maxLen ∧ (xs ++ sp).length = c * sz ∧ w.heap[b]? = some (.cells (xs ++ sp).toArray E (0, 0))) := by
  obtain ⟨F, hF, h0, h⟩ := h.get hi
  refine ⟨h0, ?_⟩
  rcases h with ⟨h1, h2, _⟩ | ⟨b, c, sp, h1, h2, h3, h4, _, _, h7⟩
  · exact .inl ⟨h1, h2⟩
  · exact .inr ⟨b, c, sp, h1, h2, h3, h4, h7⟩

/-! ### Cells that are read -/
/-- From address a on the cells are xs, in every world of these pieces. -/
def Cls (W0 : World) (l : List As) (a : Addr) (xs : List Value) : Prop := ∀ w, St W0 l w → ∀ j v, xs[j]? = some v → w.cell? (a.add j) = some v

theorem Cls.pt {i : Nat} {b T cs} (hi : l[i]? = some (Proofs.YtkonigmefmgepaaGreatDoor.pt b T cs)) (o : Nat) (xs : List Value) (hx : ∀ j v, xs[j]? = some v → cs[o + j]? = some v) : Cls W0 l ⟨b, o, none⟩ xs := by
  intro w hw j v hj
  have := (hw.pt hi).1
  rw [Addr.add_lit]
  simp [World.cell?, this, hx j v hj]
theorem Cls.sub {a : Addr} {xs : List Value} (h : Cls W0 l a xs) (o : Nat) (ys : List Value) (hy : ∀ j v, ys[j]? = some v → xs[o + j]? = some v) (ha : a.spot = none) : Cls W0 l (a.add o) ys := by
  intro w hw j v hj
  have := h w hw (o + j) v (hy j v hj)
  obtain ⟨b, p, s⟩ := a
  simp only at ha
  subst ha
  rw [Addr.add_lit] at this ⊢
  rw [Addr.add_lit, Nat.add_assoc]
  exact this
theorem Cls.mono {l' : List As} {a : Addr} {xs : List Value} (h : Cls W0 l' a xs) (hl : ∀ w, St W0 l w → St W0 l' w) : Cls W0 l a xs := fun w hw => h w (hl w hw)

/-- A slice that is read: n elements of sz cells, the cells xs. -/
def Rd (W0 : World) (l : List As) (sz : Nat) (v : Value) (n : Nat) (xs : List Value) : Prop :=
  xs.length = n * sz ∧ ((∃ c, v = .slice none 0 c ∧ n = 0) ∨ ∃ a c, v = .slice (some a) n c ∧ n ≤ c ∧ (0 < n → a.spot = none) ∧ Cls W0 l a xs)
theorem Rd.mono {l' : List As} {sz v n xs} (h : Rd W0 l' sz v n xs) (hl : ∀ w, St W0 l w → St W0 l' w) : Rd W0 l sz v n xs :=
  ⟨h.1, h.2.imp id fun ⟨a, c, h1, h2, h3, h4⟩ => ⟨a, c, h1, h2, h3, h4.mono hl⟩⟩
theorem Rd.pt {i : Nat} {b E cs n} (hi : l[i]? = some (Proofs.YtkonigmefmgepaaGreatDoor.pt b E cs)) (sz : Nat) (hn : cs.length = n * sz) : Rd W0 l sz (.slice (some ⟨b, 0, none⟩) n n) n cs :=
  ⟨hn, .inr ⟨_, _, rfl, Nat.le_refl _, fun _ => rfl, .pt hi 0 cs fun j v h => by simpa using h⟩⟩

theorem scal_run {T : TypeId} (hT : (match P.underlying T with
    | some (.struct _) | some (.array ..) | none => false
    | _ => true) = true) (w : World) : (isAgg T).run P w = .ok false w := by
  unfold isAgg
  cases hu : P.underlying T with
  | none => simp [hu] at hT
  | some d =>
    simp only [hu] at hT
    simp only [Sem.run_bind, run_underlying hu, Result.andThen_ok]
    cases d <;> simp_all

/-- The type's own facts: cells, bytes, zero. -/
def tyI (P : Program) (E : TypeId) : Option (Nat × Nat × Option Value) := (P.info? E).map fun i => (i.size, i.bytes, i.zero)
theorem tyI_spec {E sz by_ : Nat} {z : Option Value} (h : tyI P E = some (sz, by_, z)) : ∃ i, P.info? E = some i ∧ i.size = sz ∧ i.bytes = by_ ∧ i.zero = z := by
  unfold tyI at h
  cases hi : P.info? E with
  | none => simp [hi] at h
  | some i => simp [hi] at h; exact ⟨i, rfl, h.1, h.2.1, h.2.2⟩
def scal (P : Program) (T : TypeId) : Bool := match P.underlying T with
  | some (.struct _) | some (.array ..) | none => false
  | _ => true
def aggr (P : Program) (T : TypeId) : Bool := match P.underlying T with
  | some (.struct _) | some (.array ..) => true
  | _ => false
theorem aggr_run {T : TypeId} (hT : aggr P T = true) (w : World) : (isAgg T).run P w = .ok true w := by
  unfold aggr at hT
  unfold isAgg
  cases hu : P.underlying T with
  | none => simp [hu] at hT
  | some d =>
    simp only [hu] at hT
    simp only [Sem.run_bind, run_underlying hu, Result.andThen_ok]
    cases d <;> simp_all

theorem ld_scal {T : TypeId} (hT : scal P T = true) {a : Addr} {v : Value} (h : w.cell? a = some v) : (V (Instr.loadAt T (.pointer (some a)))).run P w = .ok (.value v) w := by
  simp [V, Instr.loadAt, Instr.sureAddr, loadVar, scal_run hT, h]
theorem ld_aggr {T : TypeId} (hT : aggr P T = true) {sz by_ z} (hs : tyI P T = some (sz, by_, z)) {a : Addr} {xs : List Value} (hl : xs.length = sz) (h : ∀ j v, xs[j]? = some v → w.cell? (a.add j) = some v) :
    (V (Instr.loadAt T (.pointer (some a)))).run P w = .ok (.value (.agg xs.toArray)) w := by
  obtain ⟨i, hi, h1, _, _⟩ := tyI_spec hs
  subst hl
  have hc := run_loadCells_list (P := P) w a xs h
  simp [V, Instr.loadAt, Instr.sureAddr, loadVar, aggr_run hT, sizeOf, typeInfo, hi, h1, hc]

/-- A load of one cell. -/
theorem run_ld {T : TypeId} (hT : scal P T = true) {a : Addr} {v : Value} (h : Cls W0 l a [v]) (hk : Run W0 l (K v)) : Run W0 l (nextS P (V (Instr.loadAt T (.pointer (some a)))) K pn) :=
  run_val v (fun w hw => ld_scal hT (by have := h w hw 0 v rfl; rwa [show a.add 0 = a from rfl] at this)) hk
theorem take_ld {l0 : List As} {T : TypeId} (hT : scal P T = true) {a : Addr} {v : Value} (h : Cls W0 l0 a [v]) (hk : Run W0 l (K v)) : Run W0 l (takeS (St W0 l0) P (V (Instr.loadAt T (.pointer (some a)))) K) :=
  run_take v (fun w hw => ld_scal hT (by have := h w hw 0 v rfl; rwa [show a.add 0 = a from rfl] at this)) hk
/-- A load of a struct or an array. -/
theorem run_lda {T : TypeId} (hT : aggr P T = true) {sz by_ z} (hs : tyI P T = some (sz, by_, z)) {a : Addr} {xs : List Value} (hl : xs.length = sz) (h : Cls W0 l a xs) (hk : Run W0 l (K (.agg xs.toArray))) :
    Run W0 l (nextS P (V (Instr.loadAt T (.pointer (some a)))) K pn) := run_val _ (fun w hw => ld_aggr hT hs hl (h w hw)) hk
theorem take_lda {l0 : List As} {T : TypeId} (hT : aggr P T = true) {sz by_ z} (hs : tyI P T = some (sz, by_, z)) {a : Addr} {xs : List Value} (hl : xs.length = sz) (h : Cls W0 l0 a xs) (hk : Run W0 l (K (.agg xs.toArray))) :
    Run W0 l (takeS (St W0 l0) P (V (Instr.loadAt T (.pointer (some a)))) K) := run_take _ (fun w hw => ld_aggr hT hs hl (h w hw)) hk

/-- One cell out of a row of cells. -/
theorem cl1 {i : Nat} {b T cs} (hi : l[i]? = some (Proofs.YtkonigmefmgepaaGreatDoor.pt b T cs)) {o : Nat} {v : Value} (h : cs[o]? = some v) : Cls W0 l ⟨b, o, none⟩ [v] :=
  .pt hi o [v] fun j u hj => by
    cases j with
    | zero => simp at hj; subst hj; simpa using h
    | succ j => simp at hj

/-! ### Stores -/
def splice (cs : List Value) (o : Nat) (vs : List Value) : List Value := cs.take o ++ (vs ++ cs.drop (o + vs.length))

theorem setRow_grown (w : World) (g : Nat) (cs : Array Value) : (w.setRow g cs).os = w.os ∧ (w.setRow g cs).tape = w.tape ∧ (w.setRow g cs).output = w.output ∧ w.heap.size ≤ (w.setRow g cs).heap.size :=
  ⟨rfl, rfl, rfl, by simp [World.setRow]⟩

theorem St.setPt (h : St W0 l w) {i : Nat} {b T cs} (hi : l[i]? = some (Proofs.YtkonigmefmgepaaGreatDoor.pt b T cs)) (cs' : List Value) : St W0 (l.set i (Proofs.YtkonigmefmgepaaGreatDoor.pt b T cs')) (w.setRow b cs'.toArray) := by
  refine h.upd hi (.inr (setRow_grown w b _)) fun F hF ⟨h1, h2, h3⟩ => ⟨fun x hx hn => setRow_other w b x _ (fun e => hn (e ▸ h1)), F, fun x hx => .inl hx, h1, h2, ?_⟩
  exact setRow_heap w b _ _ T (0, 0) h3

theorem st_run {T : TypeId} {sz by_ z} (hs : tyI P T = some (sz, by_, z)) {b o : Nat} {E : TypeId} {cs : List Value} {v : Value} (hb : w.heap[b]? = some (.cells cs.toArray E (0, 0))) (hv : v.cells.size = sz)
    (h1 : ∀ u ∈ v.cells.toList, u.oneCell' = true) (hfit : o + sz ≤ cs.length) :
    (U (Instr.storeAt T (.pointer (some ⟨b, o, none⟩)) v)).run P w = .ok .skip (w.setRow b (splice cs o v.cells.toList).toArray) := by
  obtain ⟨i, hi, he, _, _⟩ := tyI_spec hs
  have hst := run_storeCells_at P b o E v.cells.toList 0 cs.toArray w hb (by simp [hv]; omega) h1
  simp only [Nat.add_zero] at hst
  simp [U, Instr.storeAt, Instr.sureAddr, storeVar, sizeOf, typeInfo, hi, he, hv, hst, splice]

theorem run_st {T : TypeId} {sz by_ z} (hs : tyI P T = some (sz, by_, z)) {i b o : Nat} {E : TypeId} {cs : List Value} {v : Value} (hi : l[i]? = some (Proofs.YtkonigmefmgepaaGreatDoor.pt b E cs)) (hv : v.cells.size = sz)
    (h1 : ∀ u ∈ v.cells.toList, u.oneCell' = true) (hfit : o + sz ≤ cs.length) (hk : Run W0 (l.set i (Proofs.YtkonigmefmgepaaGreatDoor.pt b E (splice cs o v.cells.toList))) (K undef)) :
    Run W0 l (nextS P (U (Instr.storeAt T (.pointer (some ⟨b, o, none⟩)) v)) K pn) :=
  run_skip fun w hw => ⟨_, _, st_run hs (hw.pt hi).1 hv h1 hfit, hw.setPt hi _, hk⟩

/-! ### New memory -/
theorem St.alloc (h : St W0 l w) (T : TypeId) (cs : List Value) : St W0 (Proofs.YtkonigmefmgepaaGreatDoor.pt w.heap.size T cs :: l) (w.alloc (.cells cs.toArray T)) := by
  refine h.new (World.grownBy_alloc w _ none) (fun x => x = w.heap.size) (fun x hx => by subst hx; simp) ⟨rfl, fun x hx => hx, heap_alloc_new w _⟩

theorem run_box {T : TypeId} {v : Value} (hk : ∀ b, Run W0 (Proofs.YtkonigmefmgepaaGreatDoor.pt b T v.cells.toList :: l) (K (.pointer (some ⟨b, 0, none⟩)))) : Run W0 l (nextS P (V (Instr.box T v)) K pn) :=
  run_turn fun _ hw => ⟨_, _, _, by simp only [V, Instr.box, newVar, newRow, Sem.run_bind, run_newObj, Result.andThen_ok, Sem.run_pure]; rfl, hw.alloc T v.cells.toList, hk _⟩
theorem run_alloc {T : TypeId} {sz by_ : Nat} {z : Value} (hs : tyI P T = some (sz, by_, some z)) (hk : ∀ b, Run W0 (Proofs.YtkonigmefmgepaaGreatDoor.pt b T z.cells.toList :: l) (K (.pointer (some ⟨b, 0, none⟩)))) :
    Run W0 l (nextS P (V (Instr.alloc T true (.tuple #[]))) K pn) := by
  obtain ⟨i, hi, _, _, he⟩ := tyI_spec hs
  exact run_turn fun w hw => ⟨_, _, _, by simp [V, Instr.alloc, zeroValue, typeInfo, hi, he, newVar, newRow], hw.alloc T z.cells.toList, hk _⟩

theorem run_makeMap {t : TypeId} (hk : ∀ b, Run W0 (Proofs.YtkonigmefmgepaaGreatDoor.mp b [] 0 :: l) (K (.map (some b)))) : Run W0 l (nextS P (V (Instr.makeMap t none)) K pn) :=
  run_turn fun w hw => ⟨.map (some w.heap.size), w.alloc (.map #[] 0), Proofs.YtkonigmefmgepaaGreatDoor.mp w.heap.size [] 0 :: l, rfl,
    hw.new (World.grownBy_alloc w _ none) (fun x => x = w.heap.size) (fun x hx => by subst hx; simp) ⟨rfl, fun x hx => hx, heap_alloc_new w _⟩, hk _⟩

theorem run_makeChan {t e : TypeId} {dir : ChanDir} {sz by_ z} (ht : P.underlying t = some (.chan dir e)) (hs : tyI P e = some (sz, by_, z)) {k : IntKind} {n : Nat} (h63 : (n : Int) ≤ 9223372036854775807) (hb : (by_ : Int) * n ≤ 281474976710544)
    (hk : ∀ b, Run W0 (Proofs.YtkonigmefmgepaaGreatDoor.ch b n [] 0 0 :: l) (K (.chan (some b)))) : Run W0 l (nextS P (V (Instr.makeChan t (.int k n))) K pn) := by
  obtain ⟨i, hi, _, hby, _⟩ := tyI_spec hs
  subst hby
  refine run_turn fun w hw => ⟨.chan (some w.heap.size), w.alloc (.chan n #[] false 0 0 false), Proofs.YtkonigmefmgepaaGreatDoor.ch w.heap.size n [] 0 0 :: l, ?_,
    hw.new (World.grownBy_alloc w _ none) (fun x => x = w.heap.size) (fun x hx => by subst hx; simp) ⟨rfl, fun x hx => hx, heap_alloc_new w _⟩, hk _⟩
  have := Conc.run_makeChan (P := P) (w := w) ht hi k n h63 hb
  simp only [V, Sem.run_bind, this, Result.andThen_ok]
  rfl

theorem run_buildSlice {t E : TypeId} {n sz by_ : Nat} {z : Value} {parts : Array (Nat × Value)} (cells : List Value) (ht : P.underlying t = some (.slice E)) (hs : tyI P E = some (sz, by_, some z)) (hsmall : n * sz ≤ 2 ^ 24) (hpos : 0 < n * sz)
    (hf : Instr.fill (fun i => some (i * sz, sz)) ((Array.range (n * sz)).map (z.cells[· % z.cells.size]!)) parts.toList = some cells.toArray)
    (hk : ∀ b, Run W0 (Proofs.YtkonigmefmgepaaGreatDoor.pt b E cells :: l) (K (.slice (some ⟨b, 0, none⟩) n n))) : Run W0 l (nextS P (V (Instr.buildSlice t n parts)) K pn) := by
  obtain ⟨i, hi, h1, h2, h3⟩ := tyI_spec hs
  subst h1
  refine run_turn fun w hw => ⟨_, _, _, ?_, hw.alloc E cells, hk _⟩
  have := Go.run_buildSlice (P := P) w t E n parts cells.toArray i z ht hi h3 (by omega) (by omega) hf
  simp only [V, Sem.run_bind, this, Result.andThen_ok]
  rfl
/-- An empty literal. -/
theorem run_buildSlice0 {t E : TypeId} {sz by_ : Nat} {z} (ht : P.underlying t = some (.slice E)) (hs : tyI P E = some (sz, by_, z))
    (hk : ∀ b, Run W0 (Proofs.YtkonigmefmgepaaGreatDoor.pt b E [] :: l) (K (.slice (some ⟨b, 0, none⟩) 0 0))) : Run W0 l (nextS P (V (Instr.buildSlice t 0 #[])) K pn) := by
  obtain ⟨i, hi, h1, h2, h3⟩ := tyI_spec hs
  refine run_turn fun w hw => ⟨.slice (some ⟨w.heap.size, 0, none⟩) 0 0, w.alloc (.cells #[] E), _, ?_, hw.alloc E [], hk _⟩
  simp [V, Instr.buildSlice, run_underlying ht, sizeOf, typeInfo, hi, Instr.fill, newRow, show Array.range 0 = #[] from rfl]

/-! ### Owned rows -/
theorem St.rowOfPt (h : St W0 l w) {i : Nat} {b E cs} (hi : l[i]? = some (Proofs.YtkonigmefmgepaaGreatDoor.pt b E cs)) (sz n : Nat) (hn : cs.length = n * sz) (hm : n ≤ maxLen) : St W0 (l.set i (Proofs.YtkonigmefmgepaaGreatDoor.row E sz (.slice (some ⟨b, 0, none⟩) n n) n cs)) w :=
  h.upd hi (.inr ⟨rfl, rfl, rfl, Nat.le_refl _⟩) fun F hF ⟨h1, h2, h3⟩ => ⟨fun _ _ _ => rfl, F, fun x hx => .inl hx, hn, .inr ⟨b, n, [], rfl, Nat.le_refl _, hm, by simpa using hn, h1, h2, by simpa using h3⟩⟩
theorem run_rowOfPt (i : Nat) {b E cs} {c : C} (sz n : Nat) (hi : l[i]? = some (Proofs.YtkonigmefmgepaaGreatDoor.pt b E cs)) (hn : cs.length = n * sz) (hm : n ≤ maxLen) (h : Run W0 (l.set i (Proofs.YtkonigmefmgepaaGreatDoor.row E sz (.slice (some ⟨b, 0, none⟩) n n) n cs)) c) : Run W0 l c :=
  h.of fun _ hw => hw.rowOfPt hi sz n hn hm
theorem run_rowNil (E : TypeId) (sz : Nat) {c : C} (h : Run W0 (Proofs.YtkonigmefmgepaaGreatDoor.row E sz (.slice none 0 0) 0 [] :: l) c) : Run W0 l c :=
  h.of fun w hw => hw.new ⟨rfl, rfl, rfl, Nat.le_refl _, fun _ _ _ => rfl⟩ (fun _ => False) (fun _ hx => hx.elim) ⟨by simp, .inl ⟨rfl, rfl, fun _ hx => hx⟩⟩

/-- What a row's value is. -/
theorem row_form (h : St W0 l w) {i : Nat} {E sz v n xs} (hi : l[i]? = some (Proofs.YtkonigmefmgepaaGreatDoor.row E sz v n xs)) : xs.length = n * sz ∧ ((v = .slice none 0 0 ∧ n = 0) ∨ ∃ b c, v = .slice (some ⟨b, 0, none⟩) n c ∧ n ≤ c ∧ c ≤ maxLen) := by
  obtain ⟨h0, h1 | ⟨b, c, sp, h1, h2, h3, _⟩⟩ := h.row hi
  · exact ⟨h0, .inl h1⟩
  · exact ⟨h0, .inr ⟨b, c, h1, h2, h3⟩⟩
/-- The case split on a row's value. -/
theorem run_row_cases (i : Nat) {E sz v n xs} {c : C} (hi : l[i]? = some (Proofs.YtkonigmefmgepaaGreatDoor.row E sz v n xs))
    (hnil : v = .slice none 0 0 → n = 0 → xs = [] → Run W0 l c) (hrow : ∀ b cp, v = .slice (some ⟨b, 0, none⟩) n cp → n ≤ cp → cp ≤ maxLen → xs.length = n * sz → Run W0 l c) : Run W0 l c := fun w hw => by
  obtain ⟨h0, ⟨h1, h2⟩ | ⟨b, cp, h1, h2, h3⟩⟩ := row_form hw hi
  · exact hnil h1 h2 (by subst h2; simpa using h0) w hw
  · exact hrow b cp h1 h2 h3 h0 w hw
theorem Cls.row {i : Nat} {E sz b n c xs} (hi : l[i]? = some (Proofs.YtkonigmefmgepaaGreatDoor.row E sz (.slice (some ⟨b, 0, none⟩) n c) n xs)) : Cls W0 l ⟨b, 0, none⟩ xs := by
  intro w hw j v hj
  obtain ⟨h0, ⟨h1, _⟩ | ⟨b', c', sp, h1, _, _, _, h7⟩⟩ := hw.row hi
  · simp at h1
  · simp only [Value.slice.injEq, Option.some.injEq, Addr.mk.injEq] at h1
    obtain ⟨⟨rfl, _⟩, _, _⟩ := h1
    have hlt : j < xs.length := (List.getElem?_eq_some_iff.1 hj).1
    rw [Addr.add_lit]
    simp [World.cell?, h7, List.getElem?_append_left hlt, hj]
/-- An owned row reads. -/
theorem run_row_rd (i : Nat) {E sz v n xs} {c : C} (hi : l[i]? = some (Proofs.YtkonigmefmgepaaGreatDoor.row E sz v n xs)) (h : Rd W0 l sz v n xs → Run W0 l c) : Run W0 l c :=
  run_row_cases i hi (fun h1 h2 h3 => h ⟨by subst h2; subst h3; simp, .inl ⟨0, h1, h2⟩⟩) fun b cp h1 h2 _ h4 => h ⟨h4, .inr ⟨_, cp, h1, h2, fun _ => rfl, by subst h1; exact Cls.row hi⟩⟩

theorem goInt_eq (n : Nat) : goInt n = .int .i64 n := rfl

def nilS : Value → Bool
  | .slice none _ _ => true
  | _ => false
/-- 'append' onto an owned row. -/
theorem run_append {t ty E : TypeId} {cons : Array Bool} {sz by_ : Nat} {z : Value} (i : Nat) {v x : Value} {n m : Nat} {xs news : List Value} (ht : P.underlying t = some (.slice E)) (hs : tyI P E = some (sz, by_, some z)) (hz : z.cells.size = sz)
    (hi : l[i]? = some (Proofs.YtkonigmefmgepaaGreatDoor.row E sz v n xs)) (hx : Rd W0 l sz x m news) (h1 : ∀ u ∈ news, u.oneCell' = true) (hm : n + m ≤ maxLen) (hby : (n + m) * by_ ≤ 140737488355328) (hb1 : by_ ≤ 281474976710656)
    (hk : ∀ v', (nilS v' = true → nilS v = true) → Run W0 (l.set i (Proofs.YtkonigmefmgepaaGreatDoor.row E sz v' (n + m) (xs ++ news))) (K v')) : Run W0 l (nextS P (bltN .append #[t, t] ty cons #[v, x]) K pn) := by
  obtain ⟨inf, hinf, hsz, hbt, hzz⟩ := tyI_spec hs
  subst hsz
  subst hbt
  have h63 : ((n + m : Nat) : Int) ≤ 9223372036854775807 := by simp only [maxLen] at hm; omega
  refine run_turn fun w hw => ?_
  have key : ∀ {v' : Value} {w' : World}, (Builtin.append_ #[t, t] ty #[v, x]).run P w = .ok v' w' → (bltN .append #[t, t] ty cons #[v, x]).run P w = .ok (.value v') w' := fun h => by
    simp only [bltN, builtin, Sem.run_bind, h, Result.andThen_ok]; rfl
  obtain ⟨hlen, hrow⟩ := hw.row hi
  obtain ⟨hnl, hx⟩ := hx
  rcases hx with ⟨c, rfl, rfl⟩ | ⟨a, c, rfl, hmc, hsp, hcl⟩
  · -- nothing is appended
    have : news = [] := by simpa using hnl
    subst this
    rcases hrow with ⟨rfl, rfl⟩ | ⟨b, cp, sp, rfl, h2, h3, h4, h5⟩
    · refine ⟨_, w, _, key ?_, ?_, hk (.slice none 0 0) fun h => h⟩
      · simp [Builtin.append_, run_underlying ht, sizeOf, typeInfo, hinf, Builtin.lenOf, Builtin.firstCells]
      · simpa using hw.upd hi (A' := Proofs.YtkonigmefmgepaaGreatDoor.row E inf.size (.slice none 0 0) 0 xs) (.inr ⟨rfl, rfl, rfl, Nat.le_refl _⟩) fun F hF hf => ⟨fun _ _ _ => rfl, F, fun x hx => .inl hx, hf⟩
    · refine ⟨_, w, _, key (v' := .slice (some ⟨b, 0, none⟩) n cp) ?_, ?_, hk _ fun h => h⟩
      · simp [Builtin.append_, run_underlying ht, sizeOf, typeInfo, hinf, Builtin.lenOf, Builtin.firstCells, h2, storeCells]
      · simpa using hw.upd hi (A' := Proofs.YtkonigmefmgepaaGreatDoor.row E inf.size (.slice (some ⟨b, 0, none⟩) n cp) n xs) (.inr ⟨rfl, rfl, rfl, Nat.le_refl _⟩) fun F hF hf => ⟨fun _ _ _ => rfl, F, fun x hx => .inl hx, hf⟩
  · have hnews := hcl w hw
    have grow : ∀ (old : Nat), old < n + m → St W0 (l.set i (Proofs.YtkonigmefmgepaaGreatDoor.row E inf.size (.slice (some ⟨w.heap.size, 0, none⟩) (n + m) (grownCap w (n + m) old E)) (n + m) (xs ++ news)))
        (w.drew.alloc (.cells (xs.toArray ++ news.toArray ++ Builtin.zeroCells z.cells (grownCap w (n + m) old E - (n + m))) E)) := by
      intro old ho
      have hge := grownCap_ge w (n + m) old E
      have hle := grownCap_le_maxLen w (n + m) old E hm
      refine hw.upd hi (.inr ⟨rfl, rfl, rfl, by simp⟩) fun F hF hf => ⟨fun y hy _ => heap_alloc_old w.drew _ y hy, fun y => y = w.heap.size, fun y hy => .inr (by subst hy; simp), ?_, .inr ⟨w.heap.size, _, (Builtin.zeroCells z.cells (grownCap w (n + m) old E - (n + m))).toList, rfl, hge, hle, ?_, rfl, fun y hy => hy, ?_⟩⟩
      · rw [List.length_append, hlen, hnl, Nat.add_mul]
      · simp only [List.length_append, hlen, hnl, Array.length_toList, size_zeroCells, hz, ← Nat.add_mul]
        congr 1; omega
      · have := heap_alloc_new w.drew (.cells (xs.toArray ++ news.toArray ++ Builtin.zeroCells z.cells (grownCap w (n + m) old E - (n + m))) E)
        rw [show w.drew.heap.size = w.heap.size from rfl] at this
        rw [this]
        congr 2
        apply Array.ext'
        simp [List.append_assoc]
    rcases hrow with ⟨rfl, rfl⟩ | ⟨b, cp, sp, rfl, h2, h3, h4, h5⟩
    · have hxs : xs = [] := by simpa using hlen
      subst hxs
      by_cases hm0 : m = 0
      · subst hm0
        have : news = [] := by simpa using hnl
        subst this
        refine ⟨_, w, _, key (v' := .slice none 0 0) ?_, ?_, hk _ fun h => h⟩
        · simp [Builtin.append_, run_underlying ht, sizeOf, typeInfo, hinf, Builtin.lenOf, Builtin.firstCells, loadCells, loadCellsFrom]
        · simpa using hw.upd hi (A' := Proofs.YtkonigmefmgepaaGreatDoor.row E inf.size (.slice none 0 0) 0 []) (.inr ⟨rfl, rfl, rfl, Nat.le_refl _⟩) fun F hF hf => ⟨fun _ _ _ => rfl, F, fun x hx => .inl hx, hf⟩
      · have hr := run_append_nil (P := P) w t ty E inf z ht hinf hzz a m c news hnl hnews (by omega) (by omega) (by simp only [Nat.zero_add] at hby; omega)
        have hg := grow 0 (by omega)
        simp only [Nat.zero_add, List.nil_append] at hg
        have hk' := hk (.slice (some ⟨w.heap.size, 0, none⟩) m (grownCap w m 0 E)) (fun h => by simp [nilS] at h)
        simp only [Nat.zero_add, List.nil_append] at hk'
        exact ⟨_, _, _, key hr, by simpa using hg, hk'⟩
    · by_cases hroom : n + m ≤ cp
      · have hfit : n * inf.size + news.length ≤ (xs ++ sp).toArray.size := by
          rw [List.size_toArray, h4, hnl, ← Nat.add_mul]; exact Nat.mul_le_mul_right _ hroom
        have hr := run_append_room (P := P) w t ty E inf ht hinf b n cp (xs ++ sp).toArray h5 a m c news hnl hnews h1 hroom hfit
        refine ⟨_, _, _, key hr, ?_, hk _ fun h => by simp [nilS] at h⟩
        refine hw.upd hi (.inr (setRow_grown w b _)) fun F hF hf => ?_
        obtain ⟨_, ⟨hv, _⟩ | ⟨b', c', sp', hv, _, _, _, hFb, hFo, _⟩⟩ := hf
        · simp at hv
        · simp only [Value.slice.injEq, Option.some.injEq, Addr.mk.injEq] at hv
          obtain ⟨⟨rfl, _⟩, _, _⟩ := hv
          refine ⟨fun y hy hn => setRow_other w b y _ (fun e => hn (e ▸ hFb)), F, fun y hy => .inl hy, ?_, .inr ⟨b, cp, (xs ++ sp).drop (n * inf.size + news.length), rfl, hroom, h3, ?_, hFb, hFo, ?_⟩⟩
          · rw [List.length_append, hlen, hnl, Nat.add_mul]
          · simp only [List.length_append, List.length_drop] at h4 ⊢
            rw [List.size_toArray, List.length_append] at hfit
            omega
          · have := setRow_heap w b _ ((xs ++ sp).take (n * inf.size) ++ news ++ (xs ++ sp).drop (n * inf.size + news.length)).toArray E (0, 0) h5
            rw [this]
            congr 2
            rw [← hlen, List.take_left']
            rfl
      · have holds : ∀ j u, xs[j]? = some u → w.cell? ((⟨b, 0, none⟩ : Addr).add j) = some u := fun j u hj => by
          have hlt : j < xs.length := (List.getElem?_eq_some_iff.1 hj).1
          rw [Addr.add_lit]
          simp [World.cell?, h5, List.getElem?_append_left hlt, hj]
        have hfit := growslice_fits (need := n + m) (old := cp) (bytes := inf.bytes) (by omega) hby
        have hr := run_append_grow (P := P) w t ty E inf z ht hinf hzz ⟨b, 0, none⟩ n cp xs hlen holds a m c news hnl hnews (by omega) (by omega) hfit
        exact ⟨_, _, _, key hr, grow cp (by omega), hk _ fun h => by simp [nilS] at h⟩
end
end Go.Proofs.YtkonigmefmgepaaGreatDoor
