/- What the program reckons, in plain Lean (own work). -/
import GoSem.Core.View
namespace Go.Proofs.YtkonigmefmgepaaGreatDoor.M

def w64 (n : Int) : Int := IntKind.i64.wrap n

structure Ins where
  op : Int
  a : Int
  n : Int
  deriving DecidableEq

def jumps (x : Ins) : Bool := x.op == 15 || x.op == 16
def sets (x : Ins) (a : Int) : Bool := (x.op == 3 || x.op == 21) && x.a == a
def flag (b : Bool) : Int := if b then 1 else 0
/-- What an operator (by its number in the tree) tells. -/
def doM (op a b : Int) : Int × Bool :=
  if op == 6 then (w64 (0 - a), true) else if op == 7 then (flag (a == 0), true) else if op == 8 then (w64 (a + b), true) else if op == 9 then (w64 (a - b), true) else if op == 10 then (w64 (a * b), true)
  else if op == 11 then (if b == 0 then (0, false) else (w64 (a.tdiv b), true)) else if op == 12 then (if b == 0 then (0, false) else (a.tmod b, true))
  else if op == 13 then (flag (decide (a < b)), true) else if op == 14 then (flag (a == b), true)
  else if op == 15 then (w64 (BitVec.ofInt 64 a &&& BitVec.ofInt 64 b).toNat, true) else if op == 16 then (w64 (BitVec.ofInt 64 a ||| BitVec.ofInt 64 b).toNat, true) else (0, false)
/-- By an instruction's number. -/
def doI (op a b : Int) : Int × Bool := doM (w64 (w64 (op - 4) + 6)) a b

/-! ### Folding -/
def repl (at_ many : Nat) (by_ xs : List Ins) : List Ins := xs.take at_ ++ (by_ ++ xs.drop (at_ + many))
def fix (at_ many m : Nat) (x : Ins) : Ins := if jumps x && decide ((at_ : Int) < x.a) then { x with a := max (w64 (w64 (x.a - many) + m)) ((at_ + m : Nat) : Int) } else x
def replace (at_ many : Nat) (by_ xs : List Ins) : List Ins := (repl at_ many by_ xs).map (fix at_ many by_.length)
def free (at_ : Nat) (xs : List Ins) : Bool := decide (at_ < xs.length) && !xs.any (fun x => jumps x && x.a == (at_ : Int))
def push (n : Int) : Ins := ⟨1, 0, n⟩
/-- Behind a Push at a place: what becomes of the instructions, if something does. -/
def behind (at_ : Nat) (xs : List Ins) (a : Int) (x : Ins) : Option (List Ins) :=
  if x.op == 4 || x.op == 5 then some (replace at_ 2 [push (doI x.op a 0).1] xs)
  else if x.op == 16 && a == 0 then some (replace at_ 2 [⟨15, x.a, 0⟩] xs)
  else if x.op == 16 then some (replace at_ 2 [] xs)
  else if x.op != 1 || !free (at_ + 2) xs then none
  else match xs[at_ + 2]? with
    | none => none
    | some y => if decide (y.op < 6) || decide (14 < y.op) then none
      else if (doI y.op a x.n).2 then some (replace at_ 3 [push (doI y.op a x.n).1] xs) else none
def rule (at_ : Nat) (xs : List Ins) : Option (List Ins) := match xs[at_]? with
  | none => none
  | some x => if x.op == 15 && x.a == ((at_ + 1 : Nat) : Int) then some (replace at_ 1 [] xs)
    else if x.op == 1 && free (at_ + 1) xs then (match xs[at_ + 1]? with
      | none => none
      | some y => behind at_ xs x.n y)
    else none
/-- The first rule that may be used, from a place on. -/
def firstR (xs : List Ins) : Nat → Nat → Option (List Ins)
  | 0, _ => none
  | f + 1, at_ => match rule at_ xs with
    | some ys => some ys
    | none => firstR xs f (at_ + 1)
def foldF : Nat → List Ins → List Ins
  | 0, xs => xs
  | f + 1, xs => match firstR xs xs.length 0 with
    | some ys => foldF f ys
    | none => xs
def fold (xs : List Ins) : List Ins := foldF xs.length xs

theorem replace_len {at_ many : Nat} {by_ xs : List Ins} (h : at_ + many ≤ xs.length) : (replace at_ many by_ xs).length = xs.length - many + by_.length := by
  unfold replace repl
  simp only [List.length_map, List.length_append, List.length_take, List.length_drop]
  omega
theorem behind_len {at_ : Nat} {xs ys : List Ins} {a : Int} {x : Ins} (hx : xs[at_ + 1]? = some x) (h : behind at_ xs a x = some ys) : ys.length < xs.length := by
  have hl := (List.getElem?_eq_some_iff.1 hx).1
  unfold behind at h
  split at h
  · simp only [Option.some.injEq] at h; subst h; rw [replace_len (by omega)]; simp; omega
  split at h
  · simp only [Option.some.injEq] at h; subst h; rw [replace_len (by omega)]; simp; omega
  split at h
  · simp only [Option.some.injEq] at h; subst h; rw [replace_len (by omega)]; simp; omega
  split at h
  · simp at h
  split at h
  · simp at h
  rename_i y hy
  have hl2 := (List.getElem?_eq_some_iff.1 hy).1
  split at h
  · simp at h
  split at h
  · simp only [Option.some.injEq] at h; subst h; rw [replace_len (by omega)]; simp; omega
  · simp at h
theorem rule_len {at_ : Nat} {xs ys : List Ins} (h : rule at_ xs = some ys) : ys.length < xs.length := by
  unfold rule at h
  split at h
  · simp at h
  rename_i x hx
  have hl := (List.getElem?_eq_some_iff.1 hx).1
  split at h
  · simp only [Option.some.injEq] at h; subst h; rw [replace_len (by omega)]; simp; omega
  split at h
  · split at h
    · simp at h
    rename_i y hy
    exact behind_len hy h
  · simp at h
theorem firstR_len {xs ys : List Ins} : ∀ {f at_ : Nat}, firstR xs f at_ = some ys → ys.length < xs.length
  | 0, at_, h => by simp [firstR] at h
  | f + 1, at_, h => by
    unfold firstR at h
    split at h
    · rename_i zs hz
      simp only [Option.some.injEq] at h; subst h
      exact rule_len hz
    · exact firstR_len h
theorem firstR_skip {xs : List Ins} : ∀ {s f : Nat}, s ≤ f → (∀ j, j < s → rule j xs = none) → firstR xs f 0 = firstR xs (f - s) s
  | 0, f, _, _ => rfl
  | s + 1, f, hs, h => by
    rw [firstR_skip (s := s) (by omega) (fun j hj => h j (by omega))]
    obtain ⟨d, hd⟩ : ∃ d, f - s = d + 1 := ⟨f - s - 1, by omega⟩
    rw [hd, show f - (s + 1) = d by omega]
    simp only [firstR, h s (by omega)]
theorem foldF_fuel : ∀ {f : Nat} {xs : List Ins}, xs.length ≤ f → foldF f xs = foldF xs.length xs := by
  intro f
  induction f using Nat.strongRecOn with
  | _ f ih =>
    intro xs h
    cases f with
    | zero => have : xs.length = 0 := by omega
              rw [this]
    | succ f =>
      cases hl : xs.length with
      | zero =>
        have : xs = [] := List.eq_nil_of_length_eq_zero hl
        subst this
        rfl
      | succ n =>
        simp only [foldF, hl]
        cases hr : firstR xs (n + 1) 0 with
        | none => rfl
        | some ys =>
          have hlt := firstR_len hr
          simp only
          rw [ih f (by omega) (by omega)]
          rcases Nat.lt_or_ge n (f + 1) with h1 | h1
          · rw [ih n (by omega) (by omega)]
          · omega
theorem fold_some {xs ys : List Ins} (h : firstR xs xs.length 0 = some ys) : fold xs = fold ys := by
  have hlt := firstR_len h
  unfold fold
  obtain ⟨n, hn⟩ : ∃ n, xs.length = n + 1 := ⟨xs.length - 1, by omega⟩
  rw [hn] at h ⊢
  rw [foldF, hn, h]
  exact foldF_fuel (by omega)
theorem fold_none {xs : List Ins} (h : firstR xs xs.length 0 = none) : fold xs = xs := by
  unfold fold
  cases hl : xs.length with
  | zero => rfl
  | succ n => rw [foldF, h]
theorem fold_len (xs : List Ins) : (fold xs).length ≤ xs.length := by
  have key : ∀ (f : Nat) (xs : List Ins), (foldF f xs).length ≤ xs.length := by
    intro f
    induction f with
    | zero => intro xs; exact Nat.le_refl _
    | succ f ih =>
      intro xs
      rw [foldF]
      split
      · rename_i ys hr
        exact Nat.le_trans (ih ys) (Nat.le_of_lt (firstR_len hr))
      · exact Nat.le_refl _
  exact key _ xs

/-! ### A function for a number -/
structure Fn where
  name : ByteArray
  params : Int
  vars : Int
  arrays : Int
  l : List Ins
def fixed (p params : Int) (xs : List Ins) : Bool := decide (0 ≤ p) && decide (p < params) && !xs.any (fun x => sets x p)
def sub (p n : Int) (x : Ins) : Ins := if x.op == 2 && x.a == p then ⟨1, 0, n⟩ else x
def spec (p n params : Int) (xs : List Ins) : List Ins := if fixed p params xs then fold (xs.map (sub p n)) else fold xs
theorem spec_len (p n params : Int) (xs : List Ins) : (spec p n params xs).length ≤ xs.length := by
  unfold spec
  split
  · exact Nat.le_trans (fold_len _) (by simp)
  · exact fold_len _

/-! ### Bodies that are kept -/
def aget {β : Type} (k : Int) : List (Int × β) → Option β
  | [] => none
  | e :: es => if k = e.1 then some e.2 else aget k es
def adel {β : Type} (k : Int) : List (Int × β) → List (Int × β)
  | [] => []
  | e :: es => if k = e.1 then es else e :: adel k es
def aset {β : Type} (k : Int) (v : β) : List (Int × β) → List (Int × β)
  | [] => [(k, v)]
  | e :: es => if k = e.1 then (k, v) :: es else e :: aset k v es
structure Cache where
  cap : Int
  order : List Int
  bodies : List (Int × List Ins)
def Cache.has (s : Cache) (fn : Int) : Bool := (aget fn s.bodies).isSome
def Cache.drop (s : Cache) (fn : Int) : Cache := if s.has fn then { s with order := s.order.filter (· != fn), bodies := adel fn s.bodies } else s
def Cache.full (s : Cache) (fn : Int) : Bool := !s.has fn && ((s.order.length : Int) == s.cap)
/-- Which one goes, whether one went, and what is left ahead of a body being put. -/
def Cache.room (s : Cache) (fn : Int) : (Int × Bool) × Cache :=
  if s.full fn then ((s.order.headD 0, s.has (s.order.headD 0)), s.drop (s.order.headD 0)) else ((0, false), s.drop fn)
def Cache.put (s : Cache) (fn : Int) (b : List Ins) : (Int × Bool) × Cache :=
  ((s.room fn).1, { (s.room fn).2 with order := (s.room fn).2.order ++ [fn], bodies := aset fn b (s.room fn).2.bodies })
def Cache.get (s : Cache) (fn : Int) : List Ins := (aget fn s.bodies).getD []
theorem aget_mem {β : Type} {k : Int} {x : β} : ∀ {es : List (Int × β)}, aget k es = some x → ∃ j : Nat, es[j]? = some (k, x)
  | [], h => by simp [aget] at h
  | e :: es, h => by
    unfold aget at h
    split at h
    · rename_i hk
      simp only [Option.some.injEq] at h
      exact ⟨0, by simp [hk, ← h]⟩
    · obtain ⟨j, hj⟩ := aget_mem h
      exact ⟨j + 1, by simpa using hj⟩

/-! ### The profile -/
structure PFn where
  params : Int
  calls : Int
  runs : Nat → Int × Int
def clamp8 (n : Int) : Int := min (max n 0) 8
def newP (ps : List Int) : List PFn := ps.map fun n => ⟨clamp8 n, 0, fun _ => (0, 0)⟩
def seeR (r : Int × Int) (v : Int) : Int × Int := (v, min (w64 ((if r.1 = v then r.2 else 0) + 1)) 1000)
def setR (g : Nat → Int × Int) (i : Nat) (r : Int × Int) : Nat → Int × Int := fun j => if j = i then r else g j
def seeF (f : PFn) (args : List Int) : PFn := { f with calls := min (w64 (f.calls + 1)) 1000, runs := fun j => match args[j]? with
  | some v => seeR (f.runs j) v
  | none => f.runs j }
def seeP (s : List PFn) (fn : Nat) (args : List Int) : List PFn := match s[fn]? with
  | some f => s.set fn (seeF f args)
  | none => s

/-! ### The manager -/
structure Mgr where
  cache : Cache
  fns : List Fn
  pub : List (List Bool)
  picks : List Int
  prof : List PFn
  guards : List (Int × (Int × Int))
  events : List (Int × Int)
def paramsM (s : Mgr) (fn : Nat) : Nat := match s.fns[fn]? with
  | some f => (clamp8 f.params).toNat
  | none => 0
def openM (pub : List (List Bool)) (fn i : Nat) : Bool := match pub[fn]? with
  | some bs => (bs[i]?).getD false
  | none => false
def seenM (s : Mgr) (fn : Nat) (args : List Int) : List Int := (List.range (paramsM s fn)).map fun i => if openM s.pub fn i then (args[i]?).getD 0 else 0
def noteM (s : Mgr) (k fn : Int) : Mgr := { s with events := s.events ++ [(k, fn)] }
def goneM (s : Mgr) (fn : Int) : Mgr := noteM { s with guards := adel fn s.guards } 4 fn

/-- The first place, from one on, at which something holds. -/
def fo (p : Nat → Bool) : Nat → Nat → Option Nat
  | 0, _ => none
  | f + 1, i => if p i then some i else fo p f (i + 1)
theorem fo_skip {p : Nat → Bool} : ∀ {s f : Nat}, s ≤ f → (∀ j, j < s → p j = false) → fo p f 0 = fo p (f - s) s
  | 0, f, _, _ => rfl
  | s + 1, f, hs, h => by
    rw [fo_skip (s := s) (by omega) (fun j hj => h j (by omega))]
    obtain ⟨d, hd⟩ : ∃ d, f - s = d + 1 := ⟨f - s - 1, by omega⟩
    rw [hd, show f - (s + 1) = d by omega]
    simp only [fo, h s (by omega), Bool.false_eq_true, if_false]
/-- Which number a function is compiled for, if for one. -/
def forM_ (s : Mgr) (fn : Nat) (pick : Int) : Option Nat := if pick == 2 then fo (openM s.pub fn) (paramsM s fn) 0 else none
def runM (s : Mgr) (fn i : Nat) : Int := match s.prof[fn]? with
  | some f => (f.runs i).1
  | none => 0
def bodyM (s : Mgr) (fn : Nat) (pick : Int) : List Ins × Mgr := match s.fns[fn]? with
  | none => ([], s)
  | some f => match forM_ s fn pick with
    | some i => (spec i (runM s fn i) f.params f.l, { s with guards := aset fn ((i : Int), runM s fn i) s.guards })
    | none => (fold f.l, s)
def lenM (s : Mgr) (fn : Nat) : Nat := match s.fns[fn]? with
  | some f => f.l.length
  | none => 0
def putM (s : Mgr) (fn : Int) (b : List Ins) : Mgr :=
  if (s.cache.put fn b).1.2 then goneM { s with cache := (s.cache.put fn b).2 } (s.cache.put fn b).1.1 else { s with cache := (s.cache.put fn b).2 }
def compilesM (s : Mgr) (fn : Nat) (pick : Int) : Mgr := putM (noteM (bodyM s fn pick).2 1 fn) fn (bodyM s fn pick).1

/-! ### A call -/
def guardBad (s : Mgr) (fn : Int) (own : List Int) : Bool := match aget fn s.guards with
  | some g => (own[g.1.toNat]?).getD 0 != g.2
  | none => false
def endM (s : Mgr) (fn : Int) (own : List Int) (charge : Int) : (List Ins × Bool × Int) × Mgr :=
  if s.cache.has fn then (if guardBad s fn own then (([], false, w64 (charge + 50)), noteM s 3 fn) else ((s.cache.get fn, true, charge), noteM s 2 fn)) else (([], false, charge), s)
def midM (s : Mgr) (fn : Nat) (pick : Int) : Int × Mgr :=
  if (pick == 1 || pick == 2) && !s.cache.has fn then (w64 (2 * (lenM s fn : Nat)), compilesM s fn pick)
  else if pick == 3 && s.cache.has fn then (0, goneM { s with cache := s.cache.drop fn } fn) else (0, s)
def seeM (s : Mgr) (fn : Nat) (args : List Int) : Mgr := { s with prof := seeP s.prof fn (seenM s fn args), picks := s.picks.tail }
def enterM (s : Mgr) (fn : Int) (args : List Int) : (List Ins × Bool × Int) × Mgr :=
  if decide (fn < 1) || decide ((s.fns.length : Int) ≤ fn) then (([], false, 0), s)
  else endM (midM (seeM s fn.toNat args) fn.toNat (s.picks.headD 0)).2 fn.toNat (seenM s fn.toNat args) (midM (seeM s fn.toNat args) fn.toNat (s.picks.headD 0)).1

structure Ok (s : Mgr) : Prop where
  prof : ∀ (k : Nat) f, s.fns[k]? = some f → ∃ p, s.prof[k]? = some p ∧ p.params = clamp8 f.params
  len : ∀ f ∈ s.fns, f.l.length ≤ 4294967296
  nf : s.prof.length ≤ 4294967296
  cap : 1 ≤ s.cache.cap
  order : s.cache.order.length ≤ s.events.length
  bodies : ∀ e ∈ s.cache.bodies, e.2.length ≤ 4294967296
  guards : ∀ e ∈ s.guards, 0 ≤ e.2.1 ∧ e.2.1.toNat < paramsM s e.1.toNat

theorem mem_aset {β : Type} {k : Int} {v : β} {e : Int × β} : ∀ {es : List (Int × β)}, e ∈ aset k v es → e = (k, v) ∨ e ∈ es
  | [], h => by simp [aset] at h; exact .inl h
  | x :: es, h => by
    unfold aset at h
    split at h
    · rcases List.mem_cons.1 h with h | h
      · exact .inl h
      · exact .inr (List.mem_cons_of_mem _ h)
    · rcases List.mem_cons.1 h with h | h
      · exact .inr (by rw [h]; simp)
      · rcases mem_aset h with h | h
        · exact .inl h
        · exact .inr (List.mem_cons_of_mem _ h)
theorem mem_adel {β : Type} {k : Int} {e : Int × β} : ∀ {es : List (Int × β)}, e ∈ adel k es → e ∈ es
  | [], h => h
  | x :: es, h => by
    unfold adel at h
    split at h
    · exact List.mem_cons_of_mem _ h
    · rcases List.mem_cons.1 h with h | h
      · rw [h]; simp
      · exact List.mem_cons_of_mem _ (mem_adel h)
theorem Cache.drop_mem {c : Cache} {fn : Int} : (c.drop fn).order.length ≤ c.order.length ∧ (c.drop fn).cap = c.cap ∧ ∀ e ∈ (c.drop fn).bodies, e ∈ c.bodies := by
  unfold Cache.drop
  split
  · exact ⟨List.length_filter_le _ _, rfl, fun e he => mem_adel he⟩
  · exact ⟨Nat.le_refl _, rfl, fun e he => he⟩
theorem Cache.put_mem {c : Cache} {fn : Int} {b : List Ins} : (c.put fn b).2.order.length ≤ c.order.length + 1 ∧ (c.put fn b).2.cap = c.cap ∧ ∀ e ∈ (c.put fn b).2.bodies, e = (fn, b) ∨ e ∈ c.bodies := by
  have hr : ∀ x, (c.room fn).2 = c.drop x → (c.put fn b).2.order.length ≤ c.order.length + 1 ∧ (c.put fn b).2.cap = c.cap ∧ ∀ e ∈ (c.put fn b).2.bodies, e = (fn, b) ∨ e ∈ c.bodies := by
    intro x hx
    obtain ⟨h1, h2, h3⟩ := Cache.drop_mem (c := c) (fn := x)
    unfold Cache.put
    rw [hx]
    refine ⟨by simp; omega, h2, fun e he => ?_⟩
    rcases mem_aset he with h | h
    · exact .inl h
    · exact .inr (h3 e h)
  unfold Cache.room at hr
  split at hr
  · exact hr _ rfl
  · exact hr _ rfl
theorem seeP_at {s : List PFn} {fn k : Nat} {args : List Int} {p : PFn} (h : s[k]? = some p) : ∃ q, (seeP s fn args)[k]? = some q ∧ q.params = p.params := by
  unfold seeP
  split
  · rename_i f hf
    rw [List.getElem?_set]
    by_cases hk : fn = k
    · subst hk
      rw [if_pos rfl, if_pos (List.getElem?_eq_some_iff.1 hf).1]
      rw [hf] at h
      simp only [Option.some.injEq] at h
      subst h
      exact ⟨_, rfl, rfl⟩
    · rw [if_neg hk]; exact ⟨p, h, rfl⟩
  · exact ⟨p, h, rfl⟩
theorem seeP_len {s : List PFn} {fn : Nat} {args : List Int} : (seeP s fn args).length = s.length := by
  unfold seeP
  split
  · simp
  · rfl
theorem Ok.see {s : Mgr} (h : Ok s) (fn : Nat) (args : List Int) : Ok (seeM s fn args) where
  prof k f hf := by
    obtain ⟨p, hp, hpp⟩ := h.prof k f hf
    obtain ⟨q, hq, hqq⟩ := seeP_at (fn := fn) (args := seenM s fn args) hp
    exact ⟨q, hq, hqq.trans hpp⟩
  len := h.len
  nf := by show (seeP _ _ _).length ≤ _; rw [seeP_len]; exact h.nf
  cap := h.cap
  order := h.order
  bodies := h.bodies
  guards := h.guards
theorem Ok.note {s : Mgr} (h : Ok s) (k fn : Int) : Ok (noteM s k fn) where
  prof := h.prof
  len := h.len
  nf := h.nf
  cap := h.cap
  order := Nat.le_trans h.order (by simp [noteM])
  bodies := h.bodies
  guards := h.guards
theorem Ok.gone {s : Mgr} (h : Ok s) (fn : Int) : Ok (goneM s fn) :=
  Ok.note (s := { s with guards := adel fn s.guards }) ⟨h.prof, h.len, h.nf, h.cap, h.order, h.bodies, fun e he => h.guards e (mem_adel he)⟩ 4 fn
theorem Ok.dropC {s : Mgr} (h : Ok s) (fn : Int) : Ok { s with cache := s.cache.drop fn } :=
  have hm := Cache.drop_mem (c := s.cache) (fn := fn)
  { h with cap := by rw [hm.2.1]; exact h.cap, order := Nat.le_trans hm.1 h.order, bodies := fun e he => h.bodies e (hm.2.2 e he) }
theorem bodyM_len {s : Mgr} (h : Ok s) (fn : Nat) (pick : Int) : (bodyM s fn pick).1.length ≤ 4294967296 := by
  unfold bodyM
  split
  · simp
  rename_i f hf
  have := h.len f (List.mem_of_getElem? hf)
  split
  · exact Nat.le_trans (spec_len _ _ _ _) this
  · exact Nat.le_trans (fold_len _) this
theorem fo_lt {p : Nat → Bool} : ∀ {f i r : Nat}, fo p f i = some r → r < i + f
  | 0, i, r, h => by simp [fo] at h
  | f + 1, i, r, h => by
    unfold fo at h
    split at h
    · simp only [Option.some.injEq] at h; omega
    · have := fo_lt h; omega
theorem Ok.body {s : Mgr} (h : Ok s) (fn : Nat) (pick : Int) : Ok (bodyM s fn pick).2 := by
  unfold bodyM
  split
  · exact h
  rename_i f hf
  split
  · rename_i i hi
    refine { h with guards := fun e he => ?_ }
    rcases mem_aset he with rfl | he
    · unfold forM_ at hi
      split at hi
      · have := fo_lt hi
        refine ⟨by simp, ?_⟩
        show ((i : Int)).toNat < paramsM s ((fn : Int)).toNat
        simp only [Int.toNat_natCast]
        omega
      · simp at hi
    · exact h.guards e he
  · exact h
theorem bodyM_ev {s : Mgr} (fn : Nat) (pick : Int) : (bodyM s fn pick).2.events = s.events ∧ (bodyM s fn pick).2.fns = s.fns ∧ (bodyM s fn pick).2.cache = s.cache := by
  unfold bodyM
  split
  · exact ⟨rfl, rfl, rfl⟩
  split <;> exact ⟨rfl, rfl, rfl⟩
theorem Ok.compiles {s : Mgr} (h : Ok s) (fn : Nat) (pick : Int) : Ok (compilesM s fn pick) := by
  have h1 := h.body fn pick
  have hb := bodyM_len h fn pick
  obtain ⟨he, hf, hc⟩ := bodyM_ev (s := s) fn pick
  have hm := Cache.put_mem (c := (noteM (bodyM s fn pick).2 1 fn).cache) (fn := (fn : Int)) (b := (bodyM s fn pick).1)
  have h2 := h1.note 1 fn
  have h3 : Ok { noteM (bodyM s fn pick).2 1 fn with cache := ((noteM (bodyM s fn pick).2 1 fn).cache.put fn (bodyM s fn pick).1).2 } := by
    refine { h2 with cap := by rw [hm.2.1]; exact h2.cap, order := ?_, bodies := fun e he => ?_ }
    · refine Nat.le_trans hm.1 ?_
      have := h1.order
      show _ ≤ ((bodyM s fn pick).2.events ++ [_]).length
      simp only [List.length_append, List.length_singleton]
      exact Nat.add_le_add_right this 1
    · rcases hm.2.2 e he with rfl | he
      · exact hb
      · exact h2.bodies e he
  unfold compilesM putM
  split
  · exact h3.gone _
  · exact h3
theorem Ok.mid {s : Mgr} (h : Ok s) (fn : Nat) (pick : Int) : Ok (midM s fn pick).2 := by
  unfold midM
  split
  · exact h.compiles fn pick
  split
  · exact (h.dropC fn).gone fn
  · exact h
theorem Ok.end_ {s : Mgr} (h : Ok s) (fn : Int) (own : List Int) (c : Int) : Ok (endM s fn own c).2 := by
  unfold endM
  split
  · split
    · exact h.note _ _
    · exact h.note _ _
  · exact h
theorem Ok.enter {s : Mgr} (h : Ok s) (fn : Int) (args : List Int) : Ok (enterM s fn args).2 := by
  unfold enterM
  split
  · exact h
  · exact ((h.see _ _).mid _ _).end_ _ _ _
theorem compilesM_ev (s : Mgr) (fn : Nat) (pick : Int) : (compilesM s fn pick).events.length ≤ s.events.length + 2 ∧ (compilesM s fn pick).fns = s.fns := by
  obtain ⟨he, hf, hc⟩ := bodyM_ev (s := s) fn pick
  unfold compilesM putM
  split
  · simp only [goneM, noteM, he, List.length_append, List.length_singleton]
    exact ⟨by omega, hf⟩
  · simp only [noteM, he, List.length_append, List.length_singleton]
    exact ⟨by omega, hf⟩
theorem midM_ev (s : Mgr) (fn : Nat) (pick : Int) : (midM s fn pick).2.events.length ≤ s.events.length + 2 ∧ (midM s fn pick).2.fns = s.fns := by
  unfold midM
  split
  · exact compilesM_ev s fn pick
  split
  · refine ⟨?_, rfl⟩
    simp only [goneM, noteM, List.length_append, List.length_singleton]; omega
  · exact ⟨Nat.le_add_right _ _, rfl⟩
theorem endM_ev (s : Mgr) (fn : Int) (own : List Int) (c : Int) : (endM s fn own c).2.events.length ≤ s.events.length + 1 ∧ (endM s fn own c).2.fns = s.fns := by
  unfold endM
  split
  · split <;> (refine ⟨?_, rfl⟩; simp only [noteM, List.length_append, List.length_singleton]; omega)
  · exact ⟨Nat.le_add_right _ _, rfl⟩
theorem enterM_ev (s : Mgr) (fn : Int) (args : List Int) : (enterM s fn args).2.events.length ≤ s.events.length + 3 ∧ (enterM s fn args).2.fns = s.fns := by
  unfold enterM
  split
  · exact ⟨Nat.le_add_right _ _, rfl⟩
  · have h1 := midM_ev (seeM s fn.toNat args) fn.toNat (s.picks.headD 0)
    have h2 := endM_ev (midM (seeM s fn.toNat args) fn.toNat (s.picks.headD 0)).2 fn.toNat (seenM s fn.toNat args) (midM (seeM s fn.toNat args) fn.toNat (s.picks.headD 0)).1
    have h3 : (seeM s fn.toNat args).events = s.events := rfl
    rw [h3] at h1
    exact ⟨by omega, h2.2.trans h1.2⟩

/-! ### The laws' own helpers -/
def pairM : List Fn := [⟨⟨#[]⟩, 0, 0, 0, [⟨1, 0, 0⟩, ⟨18, 0, 0⟩]⟩, ⟨⟨#[102]⟩, 1, 1, 0, [⟨2, 0, 0⟩, ⟨1, 0, 3⟩, ⟨8, 0, 0⟩, ⟨18, 0, 0⟩]⟩]
def fewM (fs : List Fn) : List Fn := (fs.take 5).map fun f => { f with params := clamp8 f.params, l := f.l.take 60 }
end Go.Proofs.YtkonigmefmgepaaGreatDoor.M
