/- Numbers stay of their kind (own work). -/
import Derived.Test.YtkonigmefmgepaaGreatDoorM
import Derived.Laws.BitsLemmas
namespace Go.Proofs.YtkonigmefmgepaaGreatDoor.M

def R (x : Int) : Prop := -9223372036854775808 ≤ x ∧ x ≤ 9223372036854775807
def RI (x : Ins) : Prop := R x.op ∧ R x.a ∧ R x.n
theorem R_w64 (x : Int) : R (w64 x) := by
  unfold R w64
  rw [IntKind.wrap_i64]; omega
theorem R0 : R 0 := ⟨by decide, by decide⟩
theorem R1 : R 1 := ⟨by decide, by decide⟩
theorem R15 : R 15 := ⟨by decide, by decide⟩
theorem R_flag (b : Bool) : R (flag b) := by cases b <;> exact ⟨by decide, by decide⟩
theorem R_tmod {a b : Int} (ha : R a) : R (a.tmod b) := by
  unfold R at *
  have h1 : (a.tmod b).natAbs ≤ a.natAbs := by
    rw [Int.natAbs_tmod]; exact Nat.mod_le _ _
  rcases Int.lt_or_le a 0 with h | h
  · have h2 : a.tmod b ≤ 0 := by
      have := Int.tmod_nonneg (-b) (a := -a) (by omega)
      rw [Int.tmod_neg, Int.neg_tmod] at this
      omega
    omega
  · have := Int.tmod_nonneg b h
    omega
theorem doM_R {op a b : Int} (ha : R a) : R (doM op a b).1 := by
  have z : R 0 := ⟨by decide, by decide⟩
  unfold doM
  repeat' split
  all_goals first | exact R_w64 _ | exact R_flag _ | exact z | exact R_tmod ha
theorem doI_R {op a b : Int} (ha : R a) : R (doI op a b).1 := doM_R ha
theorem push_R {n : Int} (h : R n) : RI (push n) := ⟨R1, R0, h⟩
theorem fix_R {at_ many m : Nat} {x : Ins} (hx : RI x) (hs : at_ + m ≤ 4611686018427387904) : RI (fix at_ many m x) := by
  unfold fix
  split
  · refine ⟨hx.1, ?_, hx.2.2⟩
    have := R_w64 (w64 (x.a - many) + m)
    simp only
    unfold R at *
    omega
  · exact hx
theorem replace_R {at_ many : Nat} {by_ xs : List Ins} (h1 : ∀ x ∈ by_, RI x) (h2 : ∀ x ∈ xs, RI x) (hs : at_ + by_.length ≤ 4611686018427387904) : ∀ y ∈ replace at_ many by_ xs, RI y := by
  intro y hy
  unfold replace at hy
  obtain ⟨x, hx, rfl⟩ := List.mem_map.1 hy
  refine fix_R ?_ hs
  unfold repl at hx
  rcases List.mem_append.1 hx with hx | hx
  · exact h2 x (List.mem_of_mem_take hx)
  · rcases List.mem_append.1 hx with hx | hx
    · exact h1 x hx
    · exact h2 x (List.mem_of_mem_drop hx)
theorem behind_R {at_ : Nat} {xs ys : List Ins} {a : Int} {x : Ins} (hx : RI x) (ha : R a) (h2 : ∀ x ∈ xs, RI x) (hs : at_ + 1 ≤ 4611686018427387904) (h : behind at_ xs a x = some ys) : ∀ y ∈ ys, RI y := by
  have z : R 0 := ⟨by decide, by decide⟩
  have one : ∀ {p : Ins}, RI p → ∀ x ∈ [p], RI x := by intro p hp x hx; simp at hx; rw [hx]; exact hp
  unfold behind at h
  split at h
  · simp only [Option.some.injEq] at h; subst h; exact replace_R (one (push_R (doI_R ha))) h2 hs
  split at h
  · simp only [Option.some.injEq] at h; subst h; exact replace_R (one ⟨R15, hx.2.1, z⟩) h2 hs
  split at h
  · simp only [Option.some.injEq] at h; subst h; exact replace_R (by simp) h2 (by simp; omega)
  split at h
  · simp at h
  split at h
  · simp at h
  split at h
  · simp at h
  split at h
  · simp only [Option.some.injEq] at h; subst h; exact replace_R (one (push_R (doI_R ha))) h2 hs
  · simp at h
theorem rule_R {at_ : Nat} {xs ys : List Ins} (h2 : ∀ x ∈ xs, RI x) (hl : xs.length ≤ 4294967296) (h : rule at_ xs = some ys) : ∀ y ∈ ys, RI y := by
  unfold rule at h
  split at h
  · simp at h
  rename_i x hx
  have hlt := (List.getElem?_eq_some_iff.1 hx).1
  split at h
  · simp only [Option.some.injEq] at h; subst h; exact replace_R (by simp) h2 (by simp; omega)
  split at h
  · split at h
    · simp at h
    rename_i y hy
    exact behind_R (h2 y (List.mem_of_getElem? hy)) (h2 x (List.mem_of_getElem? hx)).2.2 h2 (by omega) h
  · simp at h
theorem firstR_R {xs ys : List Ins} (h2 : ∀ x ∈ xs, RI x) (hl : xs.length ≤ 4294967296) : ∀ {f at_ : Nat}, firstR xs f at_ = some ys → ∀ y ∈ ys, RI y
  | 0, at_, h => by simp [firstR] at h
  | f + 1, at_, h => by
    unfold firstR at h
    split at h
    · rename_i zs hz
      simp only [Option.some.injEq] at h; subst h
      exact rule_R h2 hl hz
    · exact firstR_R h2 hl h
theorem fold_R {xs : List Ins} (h2 : ∀ x ∈ xs, RI x) (hl : xs.length ≤ 4294967296) : ∀ y ∈ fold xs, RI y := by
  have key : ∀ (f : Nat) (xs : List Ins), (∀ x ∈ xs, RI x) → xs.length ≤ 4294967296 → ∀ y ∈ foldF f xs, RI y := by
    intro f
    induction f with
    | zero => intro xs h2 _; exact h2
    | succ f ih =>
      intro xs h2 hl
      rw [foldF]
      split
      · rename_i ys hr
        exact ih ys (firstR_R h2 hl hr) (by have := firstR_len hr; omega)
      · exact h2
  exact key _ xs h2 hl
theorem spec_R {p n params : Int} {xs : List Ins} (h2 : ∀ x ∈ xs, RI x) (hl : xs.length ≤ 4294967296) (hn : R n) : ∀ y ∈ spec p n params xs, RI y := by
  unfold spec
  split
  · refine fold_R ?_ (by simpa using hl)
    intro x hx
    obtain ⟨y, hy, rfl⟩ := List.mem_map.1 hx
    unfold sub
    split
    · exact push_R hn
    · exact h2 y hy
  · exact fold_R h2 hl

/-- A manager all whose numbers are of their kinds. -/
structure Rng (s : Mgr) : Prop where
  fns : ∀ f ∈ s.fns, ∀ x ∈ f.l, RI x
  bodies : ∀ e ∈ s.cache.bodies, ∀ x ∈ e.2, RI x
  prof : ∀ p ∈ s.prof, ∀ i, R (p.runs i).1
theorem Rng.see {s : Mgr} (h : Rng s) (fn : Nat) {args : List Int} (ha : ∀ x ∈ args, R x) : Rng (seeM s fn args) where
  fns := h.fns
  bodies := h.bodies
  prof := by
    intro p hp i
    have hp' : p ∈ seeP s.prof fn (seenM s fn args) := hp
    unfold seeP at hp'
    split at hp'
    · rename_i f hf
      rcases List.mem_or_eq_of_mem_set hp' with h1 | h1
      · exact h.prof p h1 i
      · subst h1
        unfold seeF
        simp only
        split
        · rename_i v hv
          show R (seeR _ v).1
          unfold seeR
          simp only
          have hm := List.mem_of_getElem? hv
          unfold seenM at hm
          obtain ⟨j, _, rfl⟩ := List.mem_map.1 hm
          split
          · cases hq : args[j]? with
            | none => exact ⟨by decide, by decide⟩
            | some y => exact ha y (List.mem_of_getElem? hq)
          · exact ⟨by decide, by decide⟩
        · exact h.prof f (List.mem_of_getElem? hf) i
    · exact h.prof p hp' i
theorem Rng.body {s : Mgr} (h : Rng s) (ok : Ok s) (fn : Nat) (pick : Int) : (∀ x ∈ (bodyM s fn pick).1, RI x) ∧ Rng (bodyM s fn pick).2 := by
  unfold bodyM
  split
  · exact ⟨by simp, h⟩
  · rename_i f hf
    have hm := List.mem_of_getElem? hf
    split
    · rename_i i hi
      refine ⟨spec_R (h.fns f hm) (ok.len f hm) ?_, ⟨h.fns, h.bodies, h.prof⟩⟩
      unfold runM
      split
      · rename_i p hp; exact h.prof p (List.mem_of_getElem? hp) i
      · exact ⟨by decide, by decide⟩
    · exact ⟨fold_R (h.fns f hm) (ok.len f hm), h⟩
theorem Rng.note {s : Mgr} (h : Rng s) (k fn : Int) : Rng (noteM s k fn) := ⟨h.fns, h.bodies, h.prof⟩
theorem Rng.gone {s : Mgr} (h : Rng s) (fn : Int) : Rng (goneM s fn) := ⟨h.fns, h.bodies, h.prof⟩
theorem Rng.mid {s : Mgr} (h : Rng s) (ok : Ok s) (fn : Nat) (pick : Int) : Rng (midM s fn pick).2 := by
  unfold midM
  split
  · obtain ⟨hb, h1⟩ := h.body ok fn pick
    have h3 : Rng { noteM (bodyM s fn pick).2 1 fn with cache := ((noteM (bodyM s fn pick).2 1 fn).cache.put fn (bodyM s fn pick).1).2 } := by
      refine ⟨h1.fns, fun e he => ?_, h1.prof⟩
      rcases Cache.put_mem.2.2 e he with rfl | he
      · exact hb
      · exact h1.bodies e he
    show Rng (compilesM s fn pick)
    unfold compilesM putM
    split
    · exact h3.gone _
    · exact h3
  split
  · refine Rng.gone (s := { s with cache := s.cache.drop fn }) ⟨h.fns, fun e he => h.bodies e (Cache.drop_mem.2.2 e he), h.prof⟩ _
  · exact h
theorem Rng.end_ {s : Mgr} (h : Rng s) (fn : Int) (own : List Int) (c : Int) : Rng (endM s fn own c).2 ∧ ∀ x ∈ (endM s fn own c).1.1, RI x := by
  have hg : ∀ x ∈ s.cache.get fn, RI x := by
    intro x hx
    unfold Cache.get at hx
    cases hq : aget fn s.cache.bodies with
    | none => rw [hq] at hx; simp at hx
    | some b =>
      rw [hq] at hx
      obtain ⟨j, hj⟩ := aget_mem hq
      exact h.bodies _ (List.mem_of_getElem? hj) x hx
  unfold endM
  split
  · split
    · exact ⟨h.note _ _, by simp⟩
    · exact ⟨h.note _ _, hg⟩
  · exact ⟨h, by simp⟩
theorem Rng.enter {s : Mgr} (h : Rng s) (ok : Ok s) (fn : Int) {args : List Int} (ha : ∀ x ∈ args, R x) : Rng (enterM s fn args).2 ∧ ∀ x ∈ (enterM s fn args).1.1, RI x := by
  unfold enterM
  split
  · exact ⟨h, by simp⟩
  · exact Rng.end_ ((h.see _ ha).mid (ok.see _ _) _ _) _ _ _

/-- Bodies stay short. -/
theorem enterM_len {s : Mgr} (ok : Ok s) (fn : Int) (args : List Int) : (enterM s fn args).1.1.length ≤ 4294967296 := by
  have key : ∀ {s : Mgr}, Ok s → ∀ (fn : Int) own c, (endM s fn own c).1.1.length ≤ 4294967296 := by
    intro s ok fn own c
    have hg : (s.cache.get fn).length ≤ 4294967296 := by
      unfold Cache.get
      cases hq : aget fn s.cache.bodies with
      | none => simp
      | some b => obtain ⟨j, hj⟩ := aget_mem hq; exact ok.bodies _ (List.mem_of_getElem? hj)
    unfold endM
    split
    · split
      · simp
      · exact hg
    · simp
  unfold enterM
  split
  · simp
  · exact key ((ok.see _ _).mid _ _) _ _ _
end Go.Proofs.YtkonigmefmgepaaGreatDoor.M
