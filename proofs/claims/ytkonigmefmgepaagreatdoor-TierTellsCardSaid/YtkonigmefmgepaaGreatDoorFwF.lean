/- Objects (pieces of several pieces), clearing, writing over in place, memory that was there ahead (own work). -/
import Derived.Test.YtkonigmefmgepaaGreatDoorFwE
namespace Go.Proofs.YtkonigmefmgepaaGreatDoor
open Go.RowKit
set_option linter.unusedVariables false

/-- Several pieces as one. -/
def big (ps : List As) : As where
  f F w := Sat ps F w
  loc F w w' hk h := h.keep hk
/-- Several pieces as one, for some x. -/
def obj {α : Type} (ps : α → List As) : As := aex fun x => big (ps x)

/-- A fact of no world. -/
def pur (p : Prop) : As where
  f F w := p
  loc F w w' hk h := h

theorem Sat.app : ∀ {l m : List As} {F G H : Nat → Prop} {w : World}, Sat l F w → Sat m G w → (∀ b, F b → ¬ G b) → (∀ b, F b → H b) → (∀ b, G b → H b) → Sat (l ++ m) H w
  | [], m, F, G, H, w, _, hm, _, _, hG => hm.mono hG
  | A :: l, m, F, G, H, w, ⟨F1, F2, h1, h2, h3, h4, h5⟩, hm, hd, hF, hG =>
    ⟨F1, fun b => F2 b ∨ G b, fun b hb => hF b (h1 b hb), fun b hb => hb.elim (fun hb => hF b (h2 b hb)) (hG b), fun b hb hq => hq.elim (h3 b hb) (hd b (h1 b hb)), h4,
      Sat.app h5 hm (fun b hb => hd b (h2 b hb)) (fun b hb => .inl hb) (fun b hb => .inr hb)⟩
theorem Sat.cut : ∀ {l m : List As} {F : Nat → Prop} {w : World}, Sat (l ++ m) F w → ∃ F1 F2 : Nat → Prop, (∀ b, F1 b → F b) ∧ (∀ b, F2 b → F b) ∧ (∀ b, F1 b → ¬ F2 b) ∧ Sat l F1 w ∧ Sat m F2 w
  | [], m, F, w, h => ⟨fun _ => False, F, fun _ h => h.elim, fun _ h => h, fun _ h => h.elim, trivial, h⟩
  | A :: l, m, F, w, ⟨F1, F2, h1, h2, h3, h4, h5⟩ => by
    obtain ⟨G1, G2, g1, g2, g3, g4, g5⟩ := Sat.cut h5
    exact ⟨fun b => F1 b ∨ G1 b, G2, fun b hb => hb.elim (h1 b) fun hb => h2 b (g1 b hb), fun b hb => h2 b (g2 b hb), fun b hb hq => hb.elim (fun hb => h3 b hb (g2 b hq)) fun hb => g3 b hb hq,
      ⟨F1, G1, fun b hb => .inl hb, fun b hb => .inr hb, fun b hb hq => h3 b hb (g1 b hq), h4, g4⟩, g5⟩
theorem Sat.into {A A' : As} : ∀ {l : List As} {i : Nat} {F G H : Nat → Prop} {w : World}, l[i]? = some A → A'.f F w → Sat (l.eraseIdx i) G w → (∀ b, F b → ¬ G b) → (∀ b, F b → H b) → (∀ b, G b → H b) → Sat (l.set i A') H w
  | [], i, F, G, H, w, h, _, _, _, _, _ => by simp at h
  | B :: l, 0, F, G, H, w, h, ha, hs, hd, hF, hG => ⟨F, G, hF, hG, hd, ha, hs⟩
  | B :: l, i + 1, F, G, H, w, h, ha, ⟨F1, F2, h1, h2, h3, h4, h5⟩, hd, hF, hG => by
    refine ⟨F1, fun b => F b ∨ F2 b, fun b hb => hG b (h1 b hb), fun b hb => hb.elim (hF b) fun hb => hG b (h2 b hb), fun b hb hq => hq.elim (fun hq => hd b hq (h1 b hb)) (h3 b hb), h4, ?_⟩
    exact Sat.into (l := l) (i := i) (by simpa using h) ha h5 (fun b hb hq => hd b hb (h2 b hq)) (fun b hb => .inl hb) (fun b hb => .inr hb)

section
variable {W0 : World} {l : List As} {w : World} {P : Program} {K : Value → C} {pn : Pn}

theorem St.open_ {α : Type} {ps : α → List As} (h : St W0 l w) {i : Nat} (hi : l[i]? = some (obj ps)) : ∃ x, St W0 (ps x ++ l.eraseIdx i) w := by
  obtain ⟨F, hF, hs⟩ := h.sat
  obtain ⟨F1, F2, h1, h2, h3, ⟨x, hx⟩, h5, _⟩ := Sat.out hi hs
  exact ⟨x, h.below, F, hF, Sat.app hx h5 h3 h1 h2⟩
theorem St.openB {ps : List As} (h : St W0 l w) {i : Nat} (hi : l[i]? = some (big ps)) : St W0 (ps ++ l.eraseIdx i) w := by
  obtain ⟨F, hF, hs⟩ := h.sat
  obtain ⟨F1, F2, h1, h2, h3, hx, h5, _⟩ := Sat.out hi hs
  exact ⟨h.below, F, hF, Sat.app hx h5 h3 h1 h2⟩
theorem St.shut {ps : List As} {A A' : As} {i : Nat} (h : St W0 (ps ++ l.eraseIdx i) w) (hi : l[i]? = some A) (hA : ∀ F, Sat ps F w → A'.f F w) : St W0 (l.set i A') w := by
  obtain ⟨F, hF, hs⟩ := h.sat
  obtain ⟨F1, F2, h1, h2, h3, h4, h5⟩ := Sat.cut hs
  exact ⟨h.below, F, hF, Sat.into hi (hA F1 h4) h5 h3 h1 h2⟩
theorem St.pack {ps : List As} {A' : As} (h : St W0 (ps ++ l) w) (hA : ∀ F, Sat ps F w → A'.f F w) : St W0 (A' :: l) w := by
  obtain ⟨F, hF, hs⟩ := h.sat
  obtain ⟨F1, F2, h1, h2, h3, h4, h5⟩ := Sat.cut hs
  exact ⟨h.below, F, hF, F1, F2, h1, h2, h3, hA F1 h4, h5⟩

theorem run_pur (i : Nat) {p : Prop} {c : C} (hi : l[i]? = some (pur p)) (h : p → Run W0 l c) : Run W0 l c := fun w hw => by
  obtain ⟨F, _, hp⟩ := hw.get hi
  exact h hp w hw
theorem run_newPur (p : Prop) {c : C} (hp : p) (h : Run W0 (pur p :: l) c) : Run W0 l c := h.of fun w hw => hw.new ⟨rfl, rfl, rfl, Nat.le_refl _, fun _ _ _ => rfl⟩ (fun _ => False) (fun _ hx => hx.elim) hp
theorem run_setPur (i : Nat) {p : Prop} (q : Prop) {c : C} (hi : l[i]? = some (pur p)) (hq : q) (h : Run W0 (l.set i (pur q)) c) : Run W0 l c :=
  h.of fun w hw => hw.upd hi (.inr ⟨rfl, rfl, rfl, Nat.le_refl _⟩) fun F hF hf => ⟨fun _ _ _ => rfl, F, fun x hx => .inl hx, hq⟩
/-- An object is opened. -/
theorem run_open {α : Type} {ps : α → List As} {c : C} (i : Nat) (hi : l[i]? = some (obj ps)) (h : ∀ x, Run W0 (ps x ++ l.eraseIdx i) c) : Run W0 l c := fun w hw => by
  obtain ⟨x, hx⟩ := hw.open_ hi
  exact h x w hx
theorem run_openB {ps : List As} {c : C} (i : Nat) (hi : l[i]? = some (big ps)) (h : Run W0 (ps ++ l.eraseIdx i) c) : Run W0 l c := fun w hw => h w (hw.openB hi)
/-- An object is shut again. -/
theorem run_shut {α : Type} {ps : α → List As} {A : As} {c : C} (l : List As) (i : Nat) (x : α) (hi : l[i]? = some A) (h : Run W0 (l.set i (obj ps)) c) : Run W0 (ps x ++ l.eraseIdx i) c :=
  fun w hw => h w (hw.shut hi fun F hs => ⟨x, hs⟩)
theorem run_shutB {ps : List As} {A : As} {c : C} (l : List As) (i : Nat) (hi : l[i]? = some A) (h : Run W0 (l.set i (big ps)) c) : Run W0 (ps ++ l.eraseIdx i) c :=
  fun w hw => h w (hw.shut hi fun F hs => hs)
theorem run_pack {α : Type} {ps : α → List As} {c : C} (x : α) (h : Run W0 (obj ps :: l) c) : Run W0 (ps x ++ l) c := fun w hw => h w (hw.pack fun F hs => ⟨x, hs⟩)
theorem run_packB (ps : List As) {c : C} (h : Run W0 (big ps :: l) c) : Run W0 (ps ++ l) c := fun w hw => h w (hw.pack fun F hs => hs)

theorem St.into {A A' : As} {i : Nat} (h : St W0 (A' :: l.eraseIdx i) w) (hi : l[i]? = some A) : St W0 (l.set i A') w := by
  obtain ⟨F, hF, F1, F2, h1, h2, h3, h4, h5⟩ := h.sat
  exact ⟨h.below, F, hF, Sat.into hi h4 h5 h3 h1 h2⟩
theorem run_shut1 {α : Type} {ps : α → List As} {A X : As} {c : C} (l : List As) (i : Nat) (x : α) (hi : l[i]? = some A) (h : Run W0 (X :: l.set i (obj ps)) c) : Run W0 (X :: (ps x ++ l.eraseIdx i)) c := fun w hw => by
  refine h w ?_
  obtain ⟨F, hF, F1, F2, h1, h2, h3, h4, h5⟩ := hw.sat
  obtain ⟨G1, G2, g1, g2, g3, g4, g5⟩ := Sat.cut h5
  refine ⟨hw.below, F, hF, F1, F2, h1, h2, h3, h4, ?_⟩
  exact Sat.into (A' := obj ps) hi ⟨x, g4⟩ g5 g3 g1 g2
theorem St.toAex {α : Type} {B : α → As} {x : α} (h : St W0 (B x :: l) w) : St W0 (aex B :: l) w := by
  obtain ⟨F, hF, F1, F2, h1, h2, h3, h4, h5⟩ := h.sat
  exact ⟨h.below, F, hF, F1, F2, h1, h2, h3, ⟨x, h4⟩, h5⟩
theorem St.head {A : As} (h : St W0 (A :: l) w) : St W0 [A] w := by
  have : St W0 ([A] ++ l) w := h
  exact this.drop1
theorem Cls.aexPt {α : Type} {b o : Nat} {T : TypeId} {f : α → List Value} {v : Value} (hv : ∀ x, (f x)[o]? = some v) : Cls W0 (aex (fun x => Proofs.YtkonigmefmgepaaGreatDoor.pt b T (f x)) :: l) ⟨b, o, none⟩ [v] := by
  intro w hw j u hj
  obtain ⟨F, hF, x, h1, h2, h3⟩ := hw.get (i := 0) rfl
  cases j with
  | zero =>
    simp at hj; subst hj
    rw [Addr.add_lit]
    simp [World.cell?, h3, hv x]
  | succ j => simp at hj
/-- One of several pieces is turned by itself. -/
theorem run_bigW (i : Nat) {ps qs : List As} {c : C} (hi : l[i]? = some (big ps)) (hs : ∀ F w, Sat ps F w → Sat qs F w) (h : Run W0 (l.set i (big qs)) c) : Run W0 l c :=
  h.of fun w hw => hw.upd hi (.inr ⟨rfl, rfl, rfl, Nat.le_refl _⟩) fun F hF hf => ⟨fun _ _ _ => rfl, F, fun x hx => .inl hx, hs F w hf⟩
/-- A piece back to its place. -/
theorem run_into {A A' : As} {c : C} (l : List As) (i : Nat) (hi : l[i]? = some A) (h : Run W0 (l.set i A') c) : Run W0 (A' :: l.eraseIdx i) c := fun w hw => h w (hw.into hi)
/-- Behind a change of the row of pieces. -/
theorem run_to (l' : List As) {c : C} (hl : ∀ w, St W0 l w → St W0 l' w) (h : Run W0 l' c) : Run W0 l c := h.of hl
/-- A row among several reads. -/
theorem run_big_rd (i j : Nat) {ps : List As} {E sz v n xs} {c : C} (hi : l[i]? = some (big ps)) (hj : ps[j]? = some (row E sz v n xs)) (h : Rd W0 l sz v n xs → Run W0 l c) : Run W0 l c := by
  have key : ∀ w, St W0 l w → St W0 (ps ++ l.eraseIdx i) w := fun w hw => hw.openB hi
  have hj' : (ps ++ l.eraseIdx i)[j]? = some (row E sz v n xs) := by
    rw [List.getElem?_append_left (List.getElem?_eq_some_iff.1 hj).1]; exact hj
  intro w hw
  obtain ⟨h0, h1⟩ := row_form (key w hw) hj'
  refine h ⟨h0, ?_⟩ w hw
  rcases h1 with ⟨rfl, rfl⟩ | ⟨b, cp, rfl, h2, h3⟩
  · exact .inl ⟨0, rfl, rfl⟩
  · exact .inr ⟨_, cp, rfl, h2, fun _ => rfl, (Cls.row hj').mono key⟩

/-- A row that is among the pieces, seen another way, reads. -/
theorem run_sub_rd {E sz v n xs} {c : C} (key : ∀ w, St W0 l w → ∃ (L : List As) (j : Nat), St W0 L w ∧ L[j]? = some (row E sz v n xs)) (h : Rd W0 l sz v n xs → Run W0 l c) : Run W0 l c := by
  intro w hw
  obtain ⟨L, j, hL, hj⟩ := key w hw
  obtain ⟨h0, h1⟩ := row_form hL hj
  refine h ⟨h0, ?_⟩ w hw
  rcases h1 with ⟨rfl, rfl⟩ | ⟨b, cp, rfl, h2, h3⟩
  · exact .inl ⟨0, rfl, rfl⟩
  · refine .inr ⟨_, cp, rfl, h2, fun _ => rfl, fun w' hw' => ?_⟩
    obtain ⟨L', j', hL', hj'⟩ := key w' hw'
    exact Cls.row hj' w' hL'

/-- A row reads among other pieces too, where it is one of them. -/
theorem run_row_rd2 (i : Nat) {E sz v n xs} {c : C} (l' : List As) (j : Nat) (hi : l[i]? = some (row E sz v n xs)) (hj : l'[j]? = some (row E sz v n xs)) (h : Rd W0 l' sz v n xs → Run W0 l c) : Run W0 l c :=
  run_row_cases i hi (fun h1 h2 h3 => h ⟨by subst h2; subst h3; simp, .inl ⟨0, h1, h2⟩⟩) fun b cp h1 h2 _ h4 => h ⟨h4, .inr ⟨_, cp, h1, h2, fun _ => rfl, by subst h1; exact Cls.row hj⟩⟩

/-! ### Memory that was there ahead -/
theorem Cls.base {b o : Nat} {xs : List Value} (hb : b < W0.heap.size) (h : ∀ j v, xs[j]? = some v → W0.cell? ((⟨b, o, none⟩ : Addr).add j) = some v) : Cls W0 l ⟨b, o, none⟩ xs := by
  intro w hw j v hj
  have := h j v hj
  rw [Addr.add_lit] at this ⊢
  have e := hw.below.block b hb
  simp only [World.cell?] at this ⊢
  rw [e]; exact this

/-! ### In place -/
theorem row_set_id (i : Nat) {A : As} (hi : l[i]? = some A) : l.set i A = l := by
  apply List.ext_getElem?
  intro k
  rw [List.getElem?_set]
  by_cases h : i = k
  · subst h
    obtain ⟨hlt, he⟩ := List.getElem?_eq_some_iff.1 hi
    simp [hlt, he]
  · simp [h]

/-- 'append' onto a beginning of an owned row, within its length: the cells are written over. -/
theorem run_append_in {t ty E : TypeId} {cons : Array Bool} {sz by_ : Nat} {z : Value} (i : Nat) {x : Value} {b n cp k m : Nat} {xs news : List Value} (ht : P.underlying t = some (.slice E)) (hs : tyI P E = some (sz, by_, some z))
    (hi : l[i]? = some (row E sz (.slice (some ⟨b, 0, none⟩) n cp) n xs)) (hx : Rd W0 l sz x m news) (h1 : ∀ u ∈ news, u.oneCell' = true) (hm : k + m ≤ n)
    (hk : Run W0 (l.set i (row E sz (.slice (some ⟨b, 0, none⟩) n cp) n (splice xs (k * sz) news))) (K (.slice (some ⟨b, 0, none⟩) (k + m) cp))) :
    Run W0 l (nextS P (bltN .append #[t, t] ty cons #[.slice (some ⟨b, 0, none⟩) k cp, x]) K pn) := by
  obtain ⟨inf, hinf, hsz, hbt, hzz⟩ := tyI_spec hs
  subst hsz
  subst hbt
  refine run_turn fun w hw => ?_
  have key : ∀ {v' : Value} {w' : World}, (Builtin.append_ #[t, t] ty #[.slice (some ⟨b, 0, none⟩) k cp, x]).run P w = .ok v' w' → (bltN .append #[t, t] ty cons #[.slice (some ⟨b, 0, none⟩) k cp, x]).run P w = .ok (.value v') w' := fun h => by
    simp only [bltN, builtin, Sem.run_bind, h, Result.andThen_ok]; rfl
  obtain ⟨hlen, hrow⟩ := hw.row hi
  rcases hrow with ⟨hv, _⟩ | ⟨b', cp', sp, hv, h2, h3, h4, h5⟩
  · simp at hv
  simp only [Value.slice.injEq, Option.some.injEq, Addr.mk.injEq] at hv
  obtain ⟨⟨rfl, _⟩, _, rfl⟩ := hv
  have hnl := hx.1
  have hkm : k * inf.size + news.length ≤ xs.length := by rw [hnl, hlen, ← Nat.add_mul]; exact Nat.mul_le_mul_right _ hm
  obtain ⟨cur, hb, hcur, hst⟩ := hw.setRowCells hi (k * inf.size) news hkm
  obtain ⟨hnl, hx⟩ := hx
  rcases hx with ⟨c, rfl, rfl⟩ | ⟨a, c, rfl, hmc, hsp, hcl⟩
  · have : news = [] := by simpa using hnl
    subst this
    refine ⟨_, w, _, key (v' := .slice (some ⟨b, 0, none⟩) k cp) ?_, ?_, hk⟩
    · simp [Builtin.append_, run_underlying ht, sizeOf, typeInfo, hinf, Builtin.lenOf, Builtin.firstCells, show k ≤ cp by omega, storeCells]
    · have : splice xs (k * inf.size) [] = xs := by simp [splice]
      rw [this, row_set_id i hi]; exact hw
  · have hnews := hcl w hw
    have hroom : k + m ≤ cp := by omega
    have hfit : k * inf.size + news.length ≤ (xs ++ sp).toArray.size := by
      rw [List.size_toArray, h4, hnl, ← Nat.add_mul]; exact Nat.mul_le_mul_right _ hroom
    have hr := run_append_room (P := P) w t ty E inf ht hinf b k cp (xs ++ sp).toArray h5 a m c news hnl hnews h1 hroom hfit
    refine ⟨_, _, _, key hr, ?_, hk⟩
    rw [hb] at h5
    simp only [Option.some.injEq, Obj.cells.injEq] at h5
    rw [h5.1] at hst
    exact hst

theorem zeroCells_one (z : Array Value) (n : Nat) (h1 : ∀ u ∈ z.toList, u.oneCell' = true) : ∀ u ∈ (Builtin.zeroCells z n).toList, u.oneCell' = true := by
  intro u hu
  simp only [Builtin.zeroCells, Array.toList_map, List.mem_map] at hu
  obtain ⟨i, hi, rfl⟩ := hu
  have hi' : i < n * z.size := by simpa using hi
  have hpos : 0 < z.size := by
    rcases Nat.eq_zero_or_pos z.size with h | h
    · rw [h, Nat.mul_zero] at hi'; omega
    · exact h
  have hlt : i % z.size < z.size := Nat.mod_lt _ hpos
  rw [getElem!_pos z (i % z.size) hlt]
  exact h1 _ (by simp)

/-- 'clear' of what stands behind, and the row cut to what stands ahead. -/
theorem run_clear_cut {t ty E : TypeId} {cons : Array Bool} {sz by_ : Nat} {z : Value} (i : Nat) {b n cp k : Nat} {xs : List Value} (ht : P.underlying t = some (.slice E)) (hs : tyI P E = some (sz, by_, some z)) (hz : z.cells.size = sz) (hz1 : ∀ u ∈ z.cells.toList, u.oneCell' = true)
    (hi : l[i]? = some (row E sz (.slice (some ⟨b, 0, none⟩) n cp) n xs)) (hkn : k ≤ n)
    (hk : Run W0 (l.set i (row E sz (.slice (some ⟨b, 0, none⟩) k cp) k (xs.take (k * sz)))) (K (.tuple #[]))) :
    Run W0 l (nextS P (bltN .clear #[t] ty cons #[.slice (some ⟨b, if cp = k then 0 else 0 + k * sz, none⟩) (n - k) (cp - k)]) K pn) := by
  obtain ⟨inf, hinf, hsz, hbt, hzz⟩ := tyI_spec hs
  subst hsz
  refine run_turn fun w hw => ?_
  obtain ⟨hlen, hrow⟩ := hw.row hi
  rcases hrow with ⟨hv, _⟩ | ⟨b', cp', sp, hv, h2, h3, h4, h5⟩
  · simp at hv
  simp only [Value.slice.injEq, Option.some.injEq, Addr.mk.injEq] at hv
  obtain ⟨⟨rfl, _⟩, _, rfl⟩ := hv
  by_cases hkn' : k = n
  · subst hkn'
    refine ⟨.tuple #[], w, _, ?_, ?_, hk⟩
    · simp [bltN, builtin, Builtin.clear_, run_underlying ht]
    · have : xs.take (k * inf.size) = xs := List.take_of_length_le (by omega)
      rw [this, row_set_id i hi]; exact hw
  · have hlt : k < n := by omega
    have hcp : ¬ cp = k := by omega
    have hzl : (Builtin.zeroCells z.cells (n - k)).toList.length = (n - k) * inf.size := by rw [Array.length_toList, size_zeroCells, hz]
    have hfit : k * inf.size + (Builtin.zeroCells z.cells (n - k)).toList.length ≤ xs.length := by
      rw [hzl, hlen, ← Nat.add_mul]; exact Nat.mul_le_mul_right _ (by omega)
    obtain ⟨cur, hb, hcur, hst⟩ := hw.setRowCells hi (k * inf.size) (Builtin.zeroCells z.cells (n - k)).toList hfit
    have hc := run_storeCells_at P b (k * inf.size) E (Builtin.zeroCells z.cells (n - k)).toList 0 cur w hb (by simpa using hcur) (zeroCells_one _ _ hz1)
    simp only [Nat.add_zero] at hc
    refine ⟨.tuple #[], (w.setRow b (cur.toList.take (k * inf.size) ++ (Builtin.zeroCells z.cells (n - k)).toList ++ cur.toList.drop (k * inf.size + (Builtin.zeroCells z.cells (n - k)).toList.length)).toArray), l.set i (row E inf.size (.slice (some ⟨b, 0, none⟩) k cp) k (xs.take (k * inf.size))), ?_, ?_, hk⟩
    · obtain ⟨d, hd⟩ : ∃ d, n - k = d + 1 := ⟨n - k - 1, by omega⟩
      rw [hd] at hc ⊢
      simp [bltN, builtin, Builtin.clear_, run_underlying ht, hcp, zeroValue, typeInfo, hinf, hzz, hc]
    · have hi' : (l.set i (row E inf.size (.slice (some ⟨b, 0, none⟩) n cp) n (splice xs (k * inf.size) (Builtin.zeroCells z.cells (n - k)).toList)))[i]? = some (row E inf.size (.slice (some ⟨b, 0, none⟩) n cp) n (splice xs (k * inf.size) (Builtin.zeroCells z.cells (n - k)).toList)) := by
        have hl := (List.getElem?_eq_some_iff.1 hi).1
        simp [hl]
      have hcut := run_row_cut (W0 := W0) (c := fun w => St W0 (l.set i (row E inf.size (.slice (some ⟨b, 0, none⟩) k cp) k (xs.take (k * inf.size)))) w) i hi' k hkn (by
        intro w hw
        rw [List.set_set] at hw
        have : (splice xs (k * inf.size) (Builtin.zeroCells z.cells (n - k)).toList).take (k * inf.size) = xs.take (k * inf.size) := by
          unfold splice
          rw [List.take_left' (by rw [List.length_take]; apply Nat.min_eq_left; omega)]
        rw [this] at hw
        exact hw)
      exact hcut _ hst
end
end Go.Proofs.YtkonigmefmgepaaGreatDoor
