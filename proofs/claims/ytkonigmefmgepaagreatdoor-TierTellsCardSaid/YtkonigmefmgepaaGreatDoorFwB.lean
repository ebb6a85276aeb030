/- Memory for the shallow forms: lists of pieces of memory that stand apart (own work). -/
import Derived.Test.YtkonigmefmgepaaGreatDoorFwA
import Derived.Below
import Derived.Laws.AppendOwn
import Derived.Laws.MakeOwn
import Derived.Laws.Tables
namespace Go.Proofs.YtkonigmefmgepaaGreatDoor
open Go.RowKit

/-- A piece of memory: what it says of a world, by its blocks alone. -/
structure As where
  f : (Nat → Prop) → World → Prop
  loc : ∀ F w w', (∀ b, F b → w'.heap[b]? = w.heap[b]?) → f F w → f F w'

def Sat : List As → (Nat → Prop) → World → Prop
  | [], _, _ => True
  | A :: l, F, w => ∃ F1 F2 : Nat → Prop, (∀ b, F1 b → F b) ∧ (∀ b, F2 b → F b) ∧ (∀ b, F1 b → ¬ F2 b) ∧ A.f F1 w ∧ Sat l F2 w

structure St (W0 : World) (l : List As) (w : World) : Prop where
  below : Below W0.heap.size W0 w
  sat : ∃ F : Nat → Prop, (∀ b, F b → W0.heap.size ≤ b ∧ b < w.heap.size) ∧ Sat l F w

def Run (W0 : World) (l : List As) (c : C) : Prop := ∀ w, St W0 l w → c w

theorem Sat.mono {l : List As} {F G : Nat → Prop} {w : World} (h : Sat l F w) (hFG : ∀ b, F b → G b) : Sat l G w := by
  cases l with
  | nil => trivial
  | cons A l =>
    obtain ⟨F1, F2, h1, h2, h3, h4, h5⟩ := h
    exact ⟨F1, F2, fun b hb => hFG b (h1 b hb), fun b hb => hFG b (h2 b hb), h3, h4, h5⟩

theorem Sat.keep {l : List As} : ∀ {F : Nat → Prop} {w w' : World}, Sat l F w → (∀ b, F b → w'.heap[b]? = w.heap[b]?) → Sat l F w' := by
  induction l with
  | nil => intro F w w' _ _; trivial
  | cons A l ih =>
    rintro F w w' ⟨F1, F2, h1, h2, h3, h4, h5⟩ hk
    exact ⟨F1, F2, h1, h2, h3, A.loc F1 w w' (fun b hb => hk b (h1 b hb)) h4, ih h5 fun b hb => hk b (h2 b hb)⟩

/-- A piece out of the row: the rest stands apart from it, and any other piece may stand in its place. -/
theorem Sat.out {A : As} : ∀ {l : List As} {i : Nat} {F : Nat → Prop} {w : World}, l[i]? = some A → Sat l F w →
    ∃ F1 F2 : Nat → Prop, (∀ b, F1 b → F b) ∧ (∀ b, F2 b → F b) ∧ (∀ b, F1 b → ¬ F2 b) ∧ A.f F1 w ∧ Sat (l.eraseIdx i) F2 w ∧
      ∀ (A' : As) (F1' : Nat → Prop) (w' : World), A'.f F1' w' → (∀ b, F2 b → w'.heap[b]? = w.heap[b]?) → (∀ b, F1' b → ¬ F2 b) → Sat (l.set i A') (fun b => F1' b ∨ F2 b) w' := by
  intro l
  induction l with
  | nil => intro i F w h; simp at h
  | cons B l ih =>
    intro i F w h hs
    obtain ⟨F1, F2, h1, h2, h3, h4, h5⟩ := hs
    cases i with
    | zero =>
      simp only [List.getElem?_cons_zero, Option.some.injEq] at h
      subst h
      refine ⟨F1, F2, h1, h2, h3, h4, h5, fun A' F1' w' ha hk hd => ?_⟩
      exact ⟨F1', F2, fun b hb => .inl hb, fun b hb => .inr hb, hd, ha, h5.keep hk⟩
    | succ i =>
      simp only [List.getElem?_cons_succ] at h
      obtain ⟨G1, G2, g1, g2, g3, g4, g5, g6⟩ := ih h h5
      refine ⟨G1, fun b => F1 b ∨ G2 b, fun b hb => h2 b (g1 b hb), ?_, ?_, g4, ⟨F1, G2, fun b hb => .inl hb, fun b hb => .inr hb, fun b hb hb' => h3 b hb (g2 b hb'), h4, g5⟩, ?_⟩
      · rintro b (hb | hb)
        · exact h1 b hb
        · exact h2 b (g2 b hb)
      · rintro b hb (hb' | hb')
        · exact h3 b hb' (g1 b hb)
        · exact g3 b hb hb'
      · intro A' F1' w' ha hk hd
        have := g6 A' F1' w' ha (fun b hb => hk b (.inr hb)) (fun b hb hb' => hd b hb (.inr hb'))
        refine ⟨F1, fun b => F1' b ∨ G2 b, fun b hb => .inr (.inl hb), ?_, ?_, B.loc F1 w w' (fun b hb => hk b (.inl hb)) h4, this⟩
        · rintro b (hb | hb)
          · exact .inl hb
          · exact .inr (.inr hb)
        · rintro b hb (hb' | hb')
          · exact hd b hb' (.inl hb)
          · exact h3 b hb (g2 b hb')

theorem Sat.erase {l : List As} {i : Nat} {F : Nat → Prop} {w : World} (hs : Sat l F w) : Sat (l.eraseIdx i) F w := by
  cases h : l[i]? with
  | none => rwa [List.eraseIdx_of_length_le (by simpa using h)]
  | some A =>
    obtain ⟨F1, F2, _, h2, _, _, h5, _⟩ := Sat.out h hs
    exact h5.mono h2

section
variable {W0 : World} {l : List As} {w : World}

theorem St.start : St W0 [] W0 := ⟨Below.refl _ _, fun _ => False, fun _ h => h.elim, trivial⟩

theorem St.get (h : St W0 l w) {i : Nat} {A : As} (hi : l[i]? = some A) : ∃ F : Nat → Prop, (∀ b, F b → W0.heap.size ≤ b ∧ b < w.heap.size) ∧ A.f F w := by
  obtain ⟨F, hF, hs⟩ := h.sat
  obtain ⟨F1, F2, h1, _, _, h4, _⟩ := Sat.out hi hs
  exact ⟨F1, fun b hb => hF b (h1 b hb), h4⟩

/-- One piece turned. -/
theorem St.upd (h : St W0 l w) {i : Nat} {A A' : As} {w' : World} (hi : l[i]? = some A) (hg : w.grownBy w' none ∨ (w'.os = w.os ∧ w'.tape = w.tape ∧ w'.output = w.output ∧ w.heap.size ≤ w'.heap.size))
    (hf : ∀ F : Nat → Prop, (∀ b, F b → W0.heap.size ≤ b ∧ b < w.heap.size) → A.f F w →
      (∀ b, b < w.heap.size → ¬ F b → w'.heap[b]? = w.heap[b]?) ∧ ∃ F' : Nat → Prop, (∀ b, F' b → F b ∨ (w.heap.size ≤ b ∧ b < w'.heap.size)) ∧ A'.f F' w') : St W0 (l.set i A') w' := by
  have hg : w'.os = w.os ∧ w'.tape = w.tape ∧ w'.output = w.output ∧ w.heap.size ≤ w'.heap.size := by
    rcases hg with hg | hg
    · exact ⟨hg.os, hg.tape, hg.output, hg.size⟩
    · exact hg
  obtain ⟨F, hF, hs⟩ := h.sat
  obtain ⟨F1, F2, h1, h2, h3, h4, h5, h6⟩ := Sat.out hi hs
  obtain ⟨hk, F', hF', ha'⟩ := hf F1 (fun b hb => hF b (h1 b hb)) h4
  have hb := h.below
  refine ⟨⟨hg.1.trans hb.os, hg.2.1.trans hb.tape, hg.2.2.1.trans hb.output, Nat.le_trans hb.size hg.2.2.2, fun k hk' => ?_⟩, fun b => F' b ∨ F2 b, ?_, ?_⟩
  · rw [hk k (Nat.lt_of_lt_of_le hk' hb.size) (fun hF1 => absurd (hF k (h1 k hF1)).1 (by omega))]
    exact hb.block k hk'
  · rintro b (hb' | hb')
    · rcases hF' b hb' with hq | hq
      · have := hF b (h1 b hq); exact ⟨this.1, by omega⟩
      · have := hb.size; exact ⟨by omega, hq.2⟩
    · have := hF b (h2 b hb'); exact ⟨this.1, by omega⟩
  · refine h6 A' F' w' ha' (fun b hb' => hk b (hF b (h2 b hb')).2 fun hq => h3 b hq hb') fun b hb' hq => ?_
    rcases hF' b hb' with hx | hx
    · exact h3 b hx hq
    · have := (hF b (h2 b hq)).2; omega

/-- A new piece. -/
theorem St.new (h : St W0 l w) {A : As} {w' : World} (hg : w.grownBy w' none) (F' : Nat → Prop) (hF' : ∀ b, F' b → w.heap.size ≤ b ∧ b < w'.heap.size) (ha : A.f F' w') : St W0 (A :: l) w' := by
  obtain ⟨F, hF, hs⟩ := h.sat
  have hb := h.below
  refine ⟨⟨hg.os.trans hb.os, hg.tape.trans hb.tape, hg.output.trans hb.output, Nat.le_trans hb.size hg.size, fun k hk => ?_⟩, fun b => F' b ∨ F b, ?_, F', F, fun b hb => .inl hb, fun b hb => .inr hb, ?_, ha, ?_⟩
  · rw [hg.block k (Nat.lt_of_lt_of_le hk hb.size) (by simp)]; exact hb.block k hk
  · rintro b (hb' | hb')
    · have := hF' b hb'; have := hb.size; omega
    · have := hF b hb'; have := hg.size; omega
  · intro b hb' hq
    have := hF' b hb'; have := hF b hq; omega
  · exact hs.keep fun b hb' => hg.block b (hF b hb').2 (by simp)

theorem St.grown (h : St W0 l w) {w' : World} (hg : w.grownBy w' none) : St W0 l w' := by
  obtain ⟨F, hF, hs⟩ := h.sat
  have hb := h.below
  refine ⟨⟨hg.os.trans hb.os, hg.tape.trans hb.tape, hg.output.trans hb.output, Nat.le_trans hb.size hg.size, fun k hk => ?_⟩, F, ?_, hs.keep fun b hb' => hg.block b (hF b hb').2 (by simp)⟩
  · rw [hg.block k (Nat.lt_of_lt_of_le hk hb.size) (by simp)]; exact hb.block k hk
  · intro b hb'; have := hF b hb'; have := hg.size; omega

theorem grown_drawn (w : World) (n : Nat) (row : Option Nat) : w.grownBy { w with drawn := n } row := ⟨rfl, rfl, rfl, Nat.le_refl _, fun _ _ _ => rfl⟩
theorem St.dr (h : St W0 l w) : St W0 l (dr w) := h.grown (grown_drawn w _ none)

theorem St.tail {A : As} (h : St W0 (A :: l) w) : St W0 l w := by
  obtain ⟨F, hF, F1, F2, h1, h2, _, _, h5⟩ := h.sat
  exact ⟨h.below, F2, fun b hb => hF b (h2 b hb), h5⟩
theorem St.erase (h : St W0 l w) (i : Nat) : St W0 (l.eraseIdx i) w := by
  obtain ⟨F, hF, hs⟩ := h.sat
  exact ⟨h.below, F, hF, hs.erase⟩

/-- Piece i to the front. -/
def front (i : Nat) (l : List As) : List As := match l[i]? with
  | some A => A :: l.eraseIdx i
  | none => l
theorem St.front (h : St W0 l w) (i : Nat) : St W0 (front i l) w := by
  unfold Proofs.YtkonigmefmgepaaGreatDoor.front
  cases hi : l[i]? with
  | none => exact h
  | some A =>
    obtain ⟨F, hF, hs⟩ := h.sat
    obtain ⟨F1, F2, h1, h2, h3, h4, h5, _⟩ := Sat.out hi hs
    exact ⟨h.below, F, hF, F1, F2, h1, h2, h3, h4, h5⟩
theorem St.drop2 {m : List As} (h : St W0 (l ++ m) w) : St W0 m w := by
  induction l with
  | nil => exact h
  | cons A l ih => exact ih h.tail
theorem St.drop1 {m : List As} (h : St W0 (l ++ m) w) : St W0 l w := by
  obtain ⟨F, hF, hs⟩ := h.sat
  refine ⟨h.below, F, hF, ?_⟩
  clear hF h
  induction l generalizing F with
  | nil => trivial
  | cons A l ih =>
    obtain ⟨F1, F2, h1, h2, h3, h4, h5⟩ := hs
    exact ⟨F1, F2, h1, h2, h3, h4, ih F2 h5⟩
end

/-! ### Running -/
section
variable {W0 : World} {l : List As} {P : Program} {K : Value → C} {pn : Pn}

theorem Run.of {l' : List As} {c : C} (h : Run W0 l' c) (hl : ∀ w, St W0 l w → St W0 l' w) : Run W0 l c := fun w hw => h w (hl w hw)
theorem run_front (i : Nat) {c : C} (h : Run W0 (front i l) c) : Run W0 l c := h.of fun _ hw => hw.front i
theorem run_drop {A : As} {c : C} (h : Run W0 l c) : Run W0 (A :: l) c := h.of fun _ hw => hw.tail
theorem run_erase (i : Nat) {c : C} (h : Run W0 (l.eraseIdx i) c) : Run W0 l c := h.of fun _ hw => hw.erase i
theorem run_and {c : C} {l0 : List As} (hl : ∀ w, St W0 l w → St W0 l0 w) (h : Run W0 l c) : Run W0 l (fun w => St W0 l0 w ∧ c w) := fun w hw => ⟨hl w hw, h w hw⟩

theorem nx_val {s : Sem Next} {v : Value} (h : ∀ w, s.run P w = .ok (.value v) w) : nextS P s K pn = K v :=
  funext fun w => propext ⟨fun ⟨h'⟩ => by rw [h w] at h'; exact h', fun h' => ⟨by rw [h w]; exact h'⟩⟩
theorem px_val {s : Sem Next} {v : Value} (h : ∀ w, s.run P w = .ok (.value v) w) : pureS P s K = K v :=
  funext fun w => propext ⟨fun ⟨v', hv, hk⟩ => by
    have := (hv w).symm.trans (h w)
    simp only [Result.ok.injEq, Next.value.injEq, and_true] at this
    rwa [this] at hk, fun hk => ⟨v, h, hk⟩⟩
theorem tk_val {s : Sem Next} {v : Value} {S : C} (h : ∀ w, s.run P w = .ok (.value v) w) {w : World} (hk : K v w) : takeS S P s K w := ⟨v, fun w _ => h w, hk⟩

/-- An operation that reads. -/
theorem run_val (v : Value) {s : Sem Next} (h : ∀ w, St W0 l w → s.run P w = .ok (.value v) w) (hk : Run W0 l (K v)) : Run W0 l (nextS P s K pn) :=
  fun w hw => ⟨by rw [h w hw]; exact hk w hw⟩
theorem run_take (v : Value) {l0 : List As} {s : Sem Next} (h : ∀ w, St W0 l0 w → s.run P w = .ok (.value v) w) (hk : Run W0 l (K v)) : Run W0 l (takeS (St W0 l0) P s K) :=
  fun w hw => ⟨v, h, hk w hw⟩
/-- An operation that turns memory. -/
theorem run_turn {s : Sem Next} (h : ∀ w, St W0 l w → ∃ v w' l', s.run P w = .ok (.value v) w' ∧ St W0 l' w' ∧ Run W0 l' (K v)) : Run W0 l (nextS P s K pn) := fun w hw => by
  obtain ⟨v, w', l', h1, h2, h3⟩ := h w hw
  exact ⟨by rw [h1]; exact h3 w' h2⟩
theorem run_skip {s : Sem Next} (h : ∀ w, St W0 l w → ∃ w' l', s.run P w = .ok .skip w' ∧ St W0 l' w' ∧ Run W0 l' (K undef)) : Run W0 l (nextS P s K pn) := fun w hw => by
  obtain ⟨w', l', h1, h2, h3⟩ := h w hw
  exact ⟨by rw [h1]; exact h3 w' h2⟩

theorem run_draw (l0 : List As) {f : C → C} (hl : ∀ w, St W0 l w → St W0 l0 w) (h : Run W0 l (f (St W0 l0))) : Run W0 l (DrawS f) :=
  fun w hw => ⟨St W0 l0, (hl w hw).dr, h _ hw.dr⟩

theorem run_cond {b : Bool} {A B : C} (ht : b = true → Run W0 l A) (hf : b = false → Run W0 l B) : Run W0 l (condS (.bool b) A B) := fun w hw => by
  cases b with
  | true => exact ⟨ht rfl w hw⟩
  | false => exact ⟨hf rfl w hw⟩
theorem cond_true {A B : C} : condS (.bool true) A B = A := funext fun _ => propext ⟨fun h => h.h, fun h => ⟨h⟩⟩
theorem cond_false {A B : C} : condS (.bool false) A B = B := funext fun _ => propext ⟨fun h => h.h, fun h => ⟨h⟩⟩
theorem grd_tt {run : (Value → C) → C} : grdS (.bool true) true run K = run K := funext fun _ => propext ⟨fun h => h.h, fun h => ⟨h⟩⟩
theorem grd_ff {run : (Value → C) → C} : grdS (.bool false) false run K = run K := funext fun _ => propext ⟨fun h => h.h, fun h => ⟨h⟩⟩
theorem grd_tf {run : (Value → C) → C} : grdS (.bool true) false run K = K undef := funext fun _ => propext ⟨fun h => h.h, fun h => ⟨h⟩⟩
theorem grd_ft {run : (Value → C) → C} : grdS (.bool false) true run K = K undef := funext fun _ => propext ⟨fun h => h.h, fun h => ⟨h⟩⟩

/-- A call that is entered. -/
theorem run_call {f : FuncId} {args : Array Value} (en : ∀ w, (callFunc f args).run P w = .ok (.enter f args) w)
    (h : ∀ w, St W0 l w → Calls P f args w fun e w' => match e with
      | .returned v => K v w'
      | .panicked c => pn c w'
      | .outgrown => False) : Run W0 l (callS P f args K pn) := fun w hw => ⟨⟨by rw [en w]; exact h w hw⟩⟩

theorem callVN_eq {f : FuncId} {a b c : Array Value} : nextS P (callVN (.func (.func f) a b) c) K pn = callS P f ((a ++ c) ++ b) K pn := by
  funext w
  apply propext
  have e : callVN (.func (.func f) a b) c = callFunc f ((a ++ c) ++ b) := by
    simp only [callVN, Deferred.ofValue, invoke]
    rfl
  rw [e]
  exact ⟨fun h => ⟨h⟩, fun h => h.h⟩

theorem run_loop {σ : Type} {vs : List Value} {sl : List Nat} {body : (List Value → C) → Env → C} (Inv : σ → Prop) (J : σ → List Value) (H : σ → List As) (μ : σ → Nat) (s0 : σ)
    (h0 : Inv s0) (hv : J s0 = vs) (hl : ∀ w, St W0 l w → St W0 (H s0) w)
    (step : ∀ s e, Inv s → sl.map e = J s → Run W0 (H s) (body (fun vs' w' => ∃ s', μ s' < μ s ∧ Inv s' ∧ J s' = vs' ∧ St W0 (H s') w') e)) : Run W0 l (LoopS vs sl body) := by
  intro w hw
  refine ⟨σ, fun s vs' w' => Inv s ∧ J s = vs' ∧ St W0 (H s) w', μ, s0, ⟨h0, hv, hl w hw⟩, ?_⟩
  rintro s e w ⟨hi, hj, hs⟩
  exact step s e hi hj.symm w hs
theorem run_nxt {σ : Type} {Inv : σ → Prop} {J : σ → List Value} {H : σ → List As} {μ : σ → Nat} {s : σ} {vs' : List Value} (s' : σ) (hi : Inv s') (hlt : μ s' < μ s) (hj : J s' = vs')
    (hl : ∀ w, St W0 l w → St W0 (H s') w) : Run W0 l (fun w' => ∃ s', μ s' < μ s ∧ Inv s' ∧ J s' = vs' ∧ St W0 (H s') w') :=
  fun w hw => ⟨s', hlt, hi, hj, hl w hw⟩
end
end Go.Proofs.YtkonigmefmgepaaGreatDoor
