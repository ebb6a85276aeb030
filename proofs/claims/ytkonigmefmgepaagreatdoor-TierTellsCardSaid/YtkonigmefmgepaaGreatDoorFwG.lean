/- Slices of things: each thing so many cells (own work). -/
import Derived.Test.YtkonigmefmgepaaGreatDoorFwF
namespace Go.Proofs.YtkonigmefmgepaaGreatDoor
open Go.RowKit
set_option linter.unusedVariables false
set_option linter.unusedSimpArgs false

section
variable {α : Type} {f : α → List Value} {sz : Nat}

theorem flat_len (hf : ∀ x, (f x).length = sz) : ∀ (xs : List α), (xs.flatMap f).length = xs.length * sz
  | [] => by simp
  | x :: xs => by rw [List.flatMap_cons, List.length_append, hf, flat_len hf xs, List.length_cons, Nat.add_mul, Nat.one_mul, Nat.add_comm]
theorem flat_drop (hf : ∀ x, (f x).length = sz) : ∀ (xs : List α) (k : Nat), (xs.flatMap f).drop (k * sz) = (xs.drop k).flatMap f
  | xs, 0 => by simp
  | [], k + 1 => by simp
  | x :: xs, k + 1 => by
    rw [List.flatMap_cons, List.drop_succ_cons, ← flat_drop hf xs k, Nat.add_mul, Nat.one_mul, Nat.add_comm, ← List.drop_drop, List.drop_left' (hf x)]
theorem flat_take (hf : ∀ x, (f x).length = sz) : ∀ (xs : List α) (k : Nat), (xs.flatMap f).take (k * sz) = (xs.take k).flatMap f
  | xs, 0 => by simp
  | [], k + 1 => by simp
  | x :: xs, k + 1 => by
    rw [List.flatMap_cons, List.take_succ_cons, List.flatMap_cons, ← flat_take hf xs k, List.take_append, hf, Nat.add_mul, Nat.one_mul, Nat.add_sub_cancel]
    congr 1
    apply List.take_of_length_le
    rw [hf]; omega
theorem flat_get (hf : ∀ x, (f x).length = sz) {xs : List α} {i : Nat} {x : α} (hx : xs[i]? = some x) (j : Nat) (v : Value) (hj : (f x)[j]? = some v) : (xs.flatMap f)[i * sz + j]? = some v := by
  have h1 : (xs.flatMap f)[i * sz + j]? = ((xs.flatMap f).drop (i * sz))[j]? := by simp
  rw [h1, flat_drop hf]
  obtain ⟨hi, he⟩ := List.getElem?_eq_some_iff.1 hx
  rw [List.drop_eq_getElem_cons hi, he, List.flatMap_cons, List.getElem?_append_left (List.getElem?_eq_some_iff.1 hj).1, hj]
theorem flat_splice (hf : ∀ x, (f x).length = sz) (xs ys : List α) (k : Nat) : splice (xs.flatMap f) (k * sz) (ys.flatMap f) = (xs.take k ++ (ys ++ xs.drop (k + ys.length))).flatMap f := by
  unfold splice
  rw [flat_take hf, flat_len hf, ← Nat.add_mul, flat_drop hf, List.flatMap_append, List.flatMap_append]
theorem flat_splice1 (hf : ∀ x, (f x).length = sz) (xs : List α) (y : α) {k : Nat} (hk : k < xs.length) : splice (xs.flatMap f) (k * sz) (f y) = (xs.set k y).flatMap f := by
  have := flat_splice hf xs [y] k
  simp only [List.flatMap_cons, List.flatMap_nil, List.append_nil, List.length_singleton, List.singleton_append] at this
  rw [this, List.set_eq_take_append_cons_drop, if_pos hk]
theorem splice_one (cs : List Value) (o : Nat) (u : Value) (h : o < cs.length) : splice cs o [u] = cs.set o u := by
  unfold splice
  rw [List.set_eq_take_append_cons_drop, if_pos h]
  rfl
theorem flat_set (hf : ∀ x, (f x).length = sz) {x y : α} {k : Nat} {u : Value} (hk : k < sz) (hy : f y = (f x).set k u) : ∀ {xs : List α} {s : Nat}, xs[s]? = some x → splice (xs.flatMap f) (s * sz + k) [u] = (xs.set s y).flatMap f := by
  have key : ∀ (xs : List α) (s : Nat), xs[s]? = some x → (xs.flatMap f).set (s * sz + k) u = (xs.set s y).flatMap f := by
    intro xs
    induction xs with
    | nil => intro s h; simp at h
    | cons z xs ih =>
      intro s h
      cases s with
      | zero =>
        simp only [List.getElem?_cons_zero, Option.some.injEq] at h
        subst h
        rw [Nat.zero_mul, Nat.zero_add, List.set_cons_zero, List.flatMap_cons, List.flatMap_cons, List.set_append_left _ _ (by rw [hf]; exact hk), hy]
      | succ s =>
        simp only [List.getElem?_cons_succ] at h
        rw [List.set_cons_succ, List.flatMap_cons, List.flatMap_cons, ← ih s h, List.set_append_right _ _ (by rw [hf, Nat.add_mul]; omega), hf]
        congr 2
        rw [Nat.add_mul]; omega
  intro xs s h
  rw [splice_one, key xs s h]
  have hlt := (List.getElem?_eq_some_iff.1 h).1
  rw [flat_len hf]
  calc s * sz + k < s * sz + sz := by omega
    _ = (s + 1) * sz := by rw [Nat.add_mul, Nat.one_mul]
    _ ≤ xs.length * sz := Nat.mul_le_mul_right _ hlt
theorem map_step {β : Type} (g : β → β) {ys : List β} {s : Nat} {y : β} (h : ys[s]? = some y) : ((ys.take s).map g ++ ys.drop s).set s (g y) = (ys.take (s + 1)).map g ++ ys.drop (s + 1) := by
  obtain ⟨hlt, he⟩ := List.getElem?_eq_some_iff.1 h
  have hl : ((ys.take s).map g).length = s := by simp; omega
  rw [List.set_append_right _ _ (by omega), hl, Nat.sub_self, List.drop_eq_getElem_cons hlt, List.set_cons_zero, List.take_add_one, h, List.map_append, List.append_assoc]
  rfl
theorem map_at {β : Type} (g : β → β) {ys : List β} {s : Nat} {y : β} (h : ys[s]? = some y) : ((ys.take s).map g ++ ys.drop s)[s]? = some y := by
  obtain ⟨hlt, he⟩ := List.getElem?_eq_some_iff.1 h
  have hl : ((ys.take s).map g).length = s := by simp; omega
  rw [List.getElem?_append_right (by omega), hl, Nat.sub_self, List.getElem?_drop, Nat.add_zero, h]
theorem flat_one (h1 : ∀ x, ∀ u ∈ f x, u.oneCell' = true) (xs : List α) : ∀ u ∈ xs.flatMap f, u.oneCell' = true := by
  intro u hu
  obtain ⟨x, _, hx⟩ := List.mem_flatMap.1 hu
  exact h1 x u hx
end

section
variable {W0 : World} {l : List As} {w : World} {P : Program} {K : Value → C} {pn : Pn}
theorem Rd.form {sz v n xs} (h : Rd W0 l sz v n xs) : ∃ a c, v = .slice a n c ∧ (a = none → n = 0) ∧ (∀ x, a = some x → 0 < n → x.spot = none) ∧ (a.isSome = true → n ≤ c) := by
  rcases h.2 with ⟨c, rfl, rfl⟩ | ⟨a, c, rfl, h2, h3, h4⟩
  · exact ⟨none, c, rfl, fun _ => rfl, by simp, by simp⟩
  · exact ⟨some a, c, rfl, by simp, by rintro x ⟨⟩; exact h3, fun _ => h2⟩
theorem Rd.cls {sz n xs a c} (h : Rd W0 l sz (.slice (some a) n c) n xs) : Cls W0 l a xs := by
  rcases h.2 with ⟨c, h, rfl⟩ | ⟨a', c', h, h2, h3, h4⟩
  · simp at h
  · simp only [Value.slice.injEq, Option.some.injEq] at h
    obtain ⟨rfl, _, rfl⟩ := h
    exact h4
theorem Rd.nil {sz : Nat} {c : Nat} : Rd W0 l sz (.slice none 0 c) 0 [] := ⟨by simp, .inl ⟨c, rfl, rfl⟩⟩
theorem addr_form {a : Addr} (h : a.spot = none) : a = ⟨a.block, a.off, none⟩ := by
  cases a; simp_all

section
variable {α : Type} {f : α → List Value} {sz : Nat} {T E : TypeId} {by_ : Nat} {z : Option Value}
theorem rd_len (hf : ∀ x, (f x).length = sz) (hpos : 0 < sz) {v : Value} {n : Nat} {xs : List α} (hr : Rd W0 l sz v n (xs.flatMap f)) : xs.length = n := by
  have hl := hr.1
  rw [flat_len hf] at hl
  exact Nat.eq_of_mul_eq_mul_right hpos hl
theorem rd_idx (hT : P.underlying T = some (.slice E)) (hs : tyI P E = some (sz, by_, z)) (hf : ∀ x, (f x).length = sz) (hpos : 0 < sz) {v : Value} {n : Nat} {xs : List α} (hr : Rd W0 l sz v n (xs.flatMap f)) {k : IntKind} {i : Nat} {x : α} (hx : xs[i]? = some x) :
    ∃ b o, (∀ w, (V (Instr.indexAt T v (.int k i))).run P w = .ok (.value (.pointer (some ⟨b, o, none⟩))) w) ∧ Cls W0 l ⟨b, o, none⟩ (f x) := by
  obtain ⟨a, c, rfl, h1, h2, h3⟩ := hr.form
  have hlt := (List.getElem?_eq_some_iff.1 hx).1
  have hn : xs.length = n := rd_len hf hpos hr
  cases a with
  | none => have := h1 rfl; omega
  | some a =>
    have ha := addr_form (h2 a rfl (by omega))
    refine ⟨a.block, a.off + i * sz, fun w => ?_, ?_⟩
    · rw [ha]
      have := pv_idx (P := P) (w := w) (T := T) hT hs (b := a.block) (o := a.off) (n := n) (c := c) (k := k) (i := (i : Int)) (by omega) (by omega)
      simpa using this
    · have hc := hr.cls
      have := hc.sub (i * sz) (f x) (fun j u hj => flat_get hf hx j u hj) (h2 a rfl (by omega))
      rw [ha, Addr.add_lit] at this
      exact this
theorem run_rd_idx {l0 : List As} (hT : P.underlying T = some (.slice E)) (hs : tyI P E = some (sz, by_, z)) (hf : ∀ x, (f x).length = sz) (hpos : 0 < sz) {v : Value} {n : Nat} {xs : List α} (hr : Rd W0 l0 sz v n (xs.flatMap f)) {k : IntKind} (i : Nat) {x : α} (hx : xs[i]? = some x)
    (h : ∀ b o, Cls W0 l0 ⟨b, o, none⟩ (f x) → Run W0 l (K (.pointer (some ⟨b, o, none⟩)))) : Run W0 l (nextS P (V (Instr.indexAt T v (.int k i))) K pn) := by
  obtain ⟨b, o, h1, h2⟩ := rd_idx (P := P) hT hs hf hpos hr hx (k := k)
  rw [nx_val h1]
  exact h b o h2
theorem run_rd_idxP {l0 : List As} (hT : P.underlying T = some (.slice E)) (hs : tyI P E = some (sz, by_, z)) (hf : ∀ x, (f x).length = sz) (hpos : 0 < sz) {v : Value} {n : Nat} {xs : List α} (hr : Rd W0 l0 sz v n (xs.flatMap f)) {k : IntKind} (i : Nat) {x : α} (hx : xs[i]? = some x)
    (h : ∀ b o, Cls W0 l0 ⟨b, o, none⟩ (f x) → Run W0 l (K (.pointer (some ⟨b, o, none⟩)))) : Run W0 l (pureS P (V (Instr.indexAt T v (.int k i))) K) := by
  obtain ⟨b, o, h1, h2⟩ := rd_idx (P := P) hT hs hf hpos hr hx (k := k)
  rw [px_val h1]
  exact h b o h2
/-- x[:hi] is read. -/
theorem rd_cutHi (hT : P.underlying T = some (.slice E)) (hs : tyI P E = some (sz, by_, z)) (hf : ∀ x, (f x).length = sz) (hpos : 0 < sz) {v : Value} {n : Nat} {xs : List α} (hr : Rd W0 l sz v n (xs.flatMap f)) {k : IntKind} {i : Nat} (hi : i ≤ n) :
    ∃ v', (∀ w, (V (Instr.sliceAt T v none (some (.int k i)) none)).run P w = .ok (.value v') w) ∧ Rd W0 l sz v' i ((xs.take i).flatMap f) := by
  have hn : xs.length = n := rd_len hf hpos hr
  obtain ⟨a, c, rfl, h1, h2, h3⟩ := hr.form
  have hic : i ≤ c := by
    cases a with
    | none => have := h1 rfl; omega
    | some a => have := h3 rfl; omega
  refine ⟨.slice a i c, fun w => ?_, ?_, ?_⟩
  · have := pv_cutHi (P := P) (w := w) (T := T) hT hs (a := a) (n := n) (c := c) (k := k) (i := (i : Int)) (by omega) (by omega) h2
    simpa using this
  · rw [flat_len hf, List.length_take, Nat.min_eq_left (by omega)]
  · cases a with
    | none => have := h1 rfl; exact .inl ⟨c, by rw [show i = 0 by omega], by omega⟩
    | some a =>
      refine .inr ⟨a, c, rfl, hic, fun hi0 => h2 a rfl (by omega), fun w hw j u hj => hr.cls w hw j u ?_⟩
      rw [← flat_take hf] at hj
      rw [List.getElem?_take] at hj
      split at hj
      · exact hj
      · simp at hj
theorem run_rd_cutHi {l0 : List As} (hT : P.underlying T = some (.slice E)) (hs : tyI P E = some (sz, by_, z)) (hf : ∀ x, (f x).length = sz) (hpos : 0 < sz) {v : Value} {n : Nat} {xs : List α} (hr : Rd W0 l0 sz v n (xs.flatMap f)) {k : IntKind} (i : Nat) (hi : i ≤ n)
    (h : ∀ v', Rd W0 l0 sz v' i ((xs.take i).flatMap f) → Run W0 l (K v')) : Run W0 l (nextS P (V (Instr.sliceAt T v none (some (.int k i)) none)) K pn) := by
  obtain ⟨v', h1, h2⟩ := rd_cutHi (P := P) hT hs hf hpos hr hi (k := k)
  rw [nx_val h1]
  exact h v' h2
theorem run_rd_cutHiP {l0 : List As} (hT : P.underlying T = some (.slice E)) (hs : tyI P E = some (sz, by_, z)) (hf : ∀ x, (f x).length = sz) (hpos : 0 < sz) {v : Value} {n : Nat} {xs : List α} (hr : Rd W0 l0 sz v n (xs.flatMap f)) {k : IntKind} (i : Nat) (hi : i ≤ n)
    (h : ∀ v', Rd W0 l0 sz v' i ((xs.take i).flatMap f) → Run W0 l (K v')) : Run W0 l (pureS P (V (Instr.sliceAt T v none (some (.int k i)) none)) K) := by
  obtain ⟨v', h1, h2⟩ := rd_cutHi (P := P) hT hs hf hpos hr hi (k := k)
  rw [px_val h1]
  exact h v' h2
/-- x[lo:] is read. -/
theorem rd_cutLo (hT : P.underlying T = some (.slice E)) (hs : tyI P E = some (sz, by_, z)) (hf : ∀ x, (f x).length = sz) (hpos : 0 < sz) {b o n c : Nat} {xs : List α} (hr : Rd W0 l sz (.slice (some ⟨b, o, none⟩) n c) n (xs.flatMap f)) {i : Nat} (hi : i ≤ n) :
    Rd W0 l sz (.slice (some ⟨b, if c = i then o else o + i * sz, none⟩) (n - i) (c - i)) (n - i) ((xs.drop i).flatMap f) := by
  have hn : xs.length = n := rd_len hf hpos hr
  have hnc : n ≤ c := by obtain ⟨a, c', hv, _, _, h3⟩ := hr.form; simp only [Value.slice.injEq] at hv; obtain ⟨rfl, _, rfl⟩ := hv; exact h3 rfl
  refine ⟨by rw [flat_len hf, List.length_drop, hn], .inr ⟨_, c - i, rfl, by omega, fun _ => rfl, fun w hw j u hj => ?_⟩⟩
  rw [← flat_drop hf] at hj
  have hj' : (xs.flatMap f)[i * sz + j]? = some u := by simpa using hj
  have hlt := (List.getElem?_eq_some_iff.1 hj').1
  rw [flat_len hf, hn] at hlt
  have hne : ¬ c = i := by
    rintro rfl
    have : n = c := by omega
    subst this
    omega
  have := hr.cls w hw (i * sz + j) u hj'
  rw [if_neg hne, Addr.add_lit, Nat.add_assoc]
  rw [Addr.add_lit] at this
  exact this
end
/-- An element of an array that lies in memory. -/
theorem pv_idxA {T E : TypeId} {sz by_ len : Nat} {z : Option Value} (hT : P.underlying T = some (.array len E)) (hs : tyI P E = some (sz, by_, z)) {b o : Nat} {k : IntKind} {i : Int} (h0 : 0 ≤ i) (hn : i < len) :
    (V (Instr.indexAt T (.pointer (some ⟨b, o, none⟩)) (.int k i))).run P w = .ok (.value (.pointer (some ⟨b, o + i.toNat * sz, none⟩))) w := by
  obtain ⟨inf, hinf, he, _, _⟩ := tyI_spec hs
  subst he
  simp [V, Instr.indexAt, Instr.sureAddr, asIntOf, run_underlying hT, h0, hn, sizeOf, typeInfo, hinf, Addr.add_lit]
/-- One cell of several. -/
theorem Cls.fld {b o : Nat} {xs : List Value} (h : Cls W0 l ⟨b, o, none⟩ xs) {k : Nat} {v : Value} (hv : xs[k]? = some v) : Cls W0 l ⟨b, o + k, none⟩ [v] := by
  have := h.sub k [v] (fun j u hj => by
    cases j with
    | zero => simp at hj; subst hj; simpa using hv
    | succ j => simp at hj) rfl
  rwa [Addr.add_lit] at this
/-- A thing in an owned row. -/
theorem row_at {α : Type} {f : α → List Value} {sz i b n c : Nat} {E : TypeId} {xs : List α} (hf : ∀ x, (f x).length = sz) (hi : l[i]? = some (row E sz (.slice (some ⟨b, 0, none⟩) n c) n (xs.flatMap f))) {s : Nat} {x : α} (hx : xs[s]? = some x) : Cls W0 l ⟨b, s * sz, none⟩ (f x) := by
  have := (Cls.row hi).sub (W0 := W0) (s * sz) (f x) (fun j u hj => flat_get hf hx j u hj) rfl
  rwa [Addr.add_lit, Nat.zero_add] at this
/-- A result that lies in memory. -/
theorem run_cell {T : TypeId} (hT : aggr P T = true) {sz by_ z} (hs : tyI P T = some (sz, by_, z)) {a : Addr} {xs : List Value} (hl : xs.length = sz) (h : Cls W0 l a xs) (hk : Run W0 l (K (.agg xs.toArray))) : Run W0 l (cellS P T (.pointer (some a)) K) := by
  intro w hw
  obtain ⟨i, hi, h1, _, _⟩ := tyI_spec hs
  subst hl
  have hc := run_loadCells_list (P := P) w a xs (h w hw)
  exact ⟨a, .agg xs.toArray, rfl, by simp [loadVar, aggr_run hT, sizeOf, typeInfo, hi, h1, hc], hk w hw⟩
/-- All the cells of a block. -/
theorem cl_all {i : Nat} {b : Nat} {T : TypeId} {cs : List Value} (hi : l[i]? = some (Proofs.YtkonigmefmgepaaGreatDoor.pt b T cs)) : Cls W0 l ⟨b, 0, none⟩ cs := .pt hi 0 cs fun j v hj => by rw [Nat.zero_add]; exact hj
/-- A pure operation in a region that draws. -/
theorem run_px (v : Value) {s : Sem Next} (h : ∀ w, s.run P w = .ok (.value v) w) (hk : Run W0 l (K v)) : Run W0 l (pureS P s K) := by rw [px_val h]; exact hk
theorem run_nx (v : Value) {s : Sem Next} (h : ∀ w, s.run P w = .ok (.value v) w) (hk : Run W0 l (K v)) : Run W0 l (nextS P s K pn) := by rw [nx_val h]; exact hk
theorem run_tk {l0 : List As} (v : Value) {s : Sem Next} (h : ∀ w, s.run P w = .ok (.value v) w) (hk : Run W0 l (K v)) : Run W0 l (takeS (St W0 l0) P s K) := run_take v (fun w _ => h w) hk
end
end Go.Proofs.YtkonigmefmgepaaGreatDoor
