/- The laws of the tiers, in plain Lean (own work). -/
import Derived.Test.YtkonigmefmgepaaGreatDoorL0
namespace Go.Proofs.YtkonigmefmgepaaGreatDoor.M
set_option linter.unusedVariables false
set_option linter.unusedSimpArgs false

/-- A manager that has nothing compiled. -/
def newM (fs : List Fn) (pub : List (List Bool)) (cap : Int) (picks : List Int) : Mgr := ⟨⟨min (max cap 1) 32, [], []⟩, fs, pub, picks, newP (fs.map (·.params)), [], []⟩

theorem Ok.new {fs : List Fn} {pub : List (List Bool)} {cap : Int} {picks : List Int} (h1 : ∀ f ∈ fs, f.l.length ≤ 4294967296) (h2 : fs.length ≤ 4294967296) : Ok (newM fs pub cap picks) where
  prof k f hf := by
    refine ⟨⟨clamp8 f.params, 0, fun _ => (0, 0)⟩, ?_, rfl⟩
    show (newP (fs.map (·.params)))[k]? = _
    have hf' : fs[k]? = some f := hf
    simp [newP, hf']
  len := h1
  nf := by show (newP (fs.map (·.params))).length ≤ _; simp [newP]; exact h2
  cap := by show 1 ≤ min (max cap 1) 32; omega
  order := Nat.le_refl _
  bodies := by intro e he; simp [newM] at he
  guards := by intro e he; simp [newM] at he

/-! ### Nothing happens where all is skipped -/
structure Quiet (s : Mgr) : Prop where
  bodies : s.cache.bodies = []
  events : s.events = []
  picks : ∀ p ∈ s.picks, p < 1 ∨ 3 < p
theorem Quiet.new {fs : List Fn} {pub : List (List Bool)} {cap : Int} {picks : List Int} (h : ∀ p ∈ picks, p < 1 ∨ 3 < p) : Quiet (newM fs pub cap picks) := ⟨rfl, rfl, h⟩
theorem Quiet.enter {s : Mgr} (h : Quiet s) (fn : Int) (args : List Int) : (enterM s fn args).1 = ([], false, 0) ∧ Quiet (enterM s fn args).2 := by
  unfold enterM
  split
  · exact ⟨rfl, h⟩
  · have hp : s.picks.headD 0 < 1 ∨ 3 < s.picks.headD 0 := by
      cases hq : s.picks with
      | nil => left; simp
      | cons p ps => exact h.picks p (by rw [hq]; simp)
    have hm : midM (seeM s fn.toNat args) fn.toNat (s.picks.headD 0) = (0, seeM s fn.toNat args) := by
      unfold midM
      have h1 : (s.picks.headD 0 == 1) = false := by simp only [beq_eq_false_iff_ne]; omega
      have h2 : (s.picks.headD 0 == 2) = false := by simp only [beq_eq_false_iff_ne]; omega
      have h3 : (s.picks.headD 0 == 3) = false := by simp only [beq_eq_false_iff_ne]; omega
      rw [h1, h2, h3]
      simp
    rw [hm]
    have hh : (seeM s fn.toNat args).cache.has (fn.toNat : Int) = false := by
      show (aget _ s.cache.bodies).isSome = false
      rw [h.bodies]; rfl
    have he : endM (seeM s fn.toNat args) fn.toNat (seenM s fn.toNat args) 0 = (([], false, 0), seeM s fn.toNat args) := by
      unfold endM
      rw [hh]
      simp
    simp only [he]
    exact ⟨trivial, h.bodies, h.events, fun p hp => h.picks p (List.mem_of_mem_tail hp)⟩

/-! ### Secret arguments do not matter -/
theorem enterM_args {s : Mgr} {fn : Int} {a b : List Int} (h : 1 ≤ fn → seenM s fn.toNat a = seenM s fn.toNat b) : enterM s fn a = enterM s fn b := by
  unfold enterM
  split
  · rfl
  · rename_i hc
    have h1 : 1 ≤ fn := by simp only [Bool.or_eq_true, decide_eq_true_eq, not_or] at hc; omega
    have h2 := h h1
    unfold seeM
    rw [h2]
/-- The law's own: other arguments in the place of those that are not public. -/
def openI (pub : List (List Bool)) (fn : Int) (k : Nat) : Bool := decide (0 ≤ fn) && openM pub fn.toNat k
def otherM (pub : List (List Bool)) (fn : Int) (args other : List Int) : List Int :=
  (args.take 20).mapIdx fun k n => if !openI pub fn k && decide (k < other.length) then (other[k]?).getD 0 else n
theorem seen_other {s : Mgr} {fn : Int} {args other : List Int} (h : 1 ≤ fn) : seenM s fn.toNat (args.take 20) = seenM s fn.toNat (otherM s.pub fn args other) := by
  unfold seenM
  apply List.map_congr_left
  intro i hi
  split
  · rename_i ho
    unfold otherM openI
    rw [List.getElem?_mapIdx]
    cases hq : (args.take 20)[i]? with
    | none => rfl
    | some x =>
      have : decide (0 ≤ fn) = true := by simp; omega
      simp [this, ho]
  · rfl
theorem enter_other {s : Mgr} {fn : Int} {args other : List Int} : enterM s fn (args.take 20) = enterM s fn (otherM s.pub fn args other) := enterM_args fun h => seen_other h

/-! ### What does not turn -/
theorem bodyM_pub (s : Mgr) (fn : Nat) (pick : Int) : (bodyM s fn pick).2.pub = s.pub := by
  unfold bodyM
  split
  · rfl
  split <;> rfl
theorem midM_pub (s : Mgr) (fn : Nat) (pick : Int) : (midM s fn pick).2.pub = s.pub := by
  unfold midM
  split
  · unfold compilesM putM
    split
    · exact bodyM_pub s fn pick
    · exact bodyM_pub s fn pick
  split <;> rfl
theorem enterM_pub (s : Mgr) (fn : Int) (args : List Int) : (enterM s fn args).2.pub = s.pub := by
  unfold enterM
  split
  · rfl
  · unfold endM
    split
    · split <;> exact midM_pub _ _ _
    · exact midM_pub _ _ _

/-! ### Charges -/
def KeysIn (s : Mgr) : Prop := ∀ e ∈ s.cache.bodies, 1 ≤ e.1 ∧ e.1 < s.fns.length
/-- What the law asks of an event that a call of fn brought. -/
def evOk (n : Nat) (fn : Int) (e : Int × Int) : Bool := !(decide (e.2 < 1) || decide ((n : Int) ≤ e.2) || (e.1 != 4 && e.2 != fn))
def lenI (fs : List Fn) (k : Int) : Int := match fs[k.toNat]? with
  | some f => f.l.length
  | none => 0
def wantE (fs : List Fn) (want : Int) (e : Int × Int) : Int := if e.1 == 1 then w64 (want + w64 (2 * lenI fs e.2)) else if e.1 == 3 then w64 (want + 50) else want
def entE (ent : Bool) (e : Int × Int) : Bool := if e.1 == 1 then ent else if e.1 == 3 then ent else if e.1 == 2 then true else ent
def wantM (fs : List Fn) (es : List (Int × Int)) : Int := es.foldl (wantE fs) 0
def entM (es : List (Int × Int)) : Bool := es.foldl entE false
/-- The law at one call. -/
def chargeOk (s : Mgr) (fn : Int) (args : List Int) : Prop :=
  ∃ es, (enterM s fn args).2.events = s.events ++ es ∧ es.length ≤ 3 ∧ (∀ e ∈ es, evOk s.fns.length fn e = true) ∧ (enterM s fn args).1.2.2 = wantM s.fns es ∧ (enterM s fn args).1.2.1 = entM es ∧ ((enterM s fn args).1.1 ≠ [] → entM es = true)

theorem KeysIn.drop {s : Mgr} (h : KeysIn s) (fn : Int) : ∀ e ∈ (s.cache.drop fn).bodies, 1 ≤ e.1 ∧ e.1 < s.fns.length := fun e he => h e (Cache.drop_mem.2.2 e he)
theorem aget_key {β : Type} {k : Int} : ∀ {es : List (Int × β)}, (aget k es).isSome = true → ∃ e ∈ es, e.1 = k
  | [], h => by simp [aget] at h
  | e :: es, h => by
    unfold aget at h
    split at h
    · rename_i hk; exact ⟨e, by simp, hk.symm⟩
    · obtain ⟨e', h1, h2⟩ := aget_key h; exact ⟨e', by simp [h1], h2⟩
theorem aget_aset {β : Type} {k : Int} {v : β} : ∀ {es : List (Int × β)}, aget k (aset k v es) = some v
  | [] => by simp [aset, aget]
  | e :: es => by
    unfold aset
    split
    · simp [aget]
    · rename_i hk; simp only [aget, if_neg hk]; exact aget_aset

theorem w64_small {x : Int} (h0 : -9223372036854775808 ≤ x) (h1 : x ≤ 9223372036854775807) : w64 x = x := by
  unfold w64
  rw [IntKind.wrap_i64]; omega

theorem compiles_ev {s : Mgr} {fn : Nat} {pick : Int} (hk : KeysIn s) (h1 : 1 ≤ fn) (h2 : fn < s.fns.length) :
    ∃ es, (compilesM s fn pick).events = s.events ++ es ∧ (es = [(1, (fn : Int))] ∨ ∃ k, es = [(1, (fn : Int)), (4, k)] ∧ 1 ≤ k ∧ k < s.fns.length) ∧ (compilesM s fn pick).cache.has fn = true ∧ (compilesM s fn pick).fns = s.fns ∧ KeysIn (compilesM s fn pick) := by
  obtain ⟨he, hf, hc⟩ := bodyM_ev (s := s) fn pick
  have hkeys : ∀ e ∈ ((bodyM s fn pick).2.cache.put fn (bodyM s fn pick).1).2.bodies, 1 ≤ e.1 ∧ e.1 < s.fns.length := by
    intro e hq
    rcases Cache.put_mem.2.2 e hq with rfl | hq
    · exact ⟨by simp; omega, by simp; omega⟩
    · rw [hc] at hq; exact hk e hq
  have hhas : ((bodyM s fn pick).2.cache.put fn (bodyM s fn pick).1).2.has fn = true := by
    unfold Cache.has Cache.put
    simp only [aget_aset]; rfl
  unfold compilesM putM
  have hcn : (noteM (bodyM s fn pick).2 1 fn).cache = (bodyM s fn pick).2.cache := rfl
  rw [hcn]
  split
  · rename_i hev
    have hev' : s.cache.has ((bodyM s fn pick).2.cache.put fn (bodyM s fn pick).1).1.1 = true := by
      rw [hc] at hev ⊢
      unfold Cache.put Cache.room at hev ⊢
      simp only at hev ⊢
      split at hev
      · rename_i hfull; rw [if_pos hfull]; exact hev
      · simp at hev
    obtain ⟨e, hem, hek⟩ := aget_key hev'
    have hin := hk e hem
    refine ⟨[(1, (fn : Int)), (4, ((bodyM s fn pick).2.cache.put fn (bodyM s fn pick).1).1.1)], ?_, .inr ⟨((bodyM s fn pick).2.cache.put fn (bodyM s fn pick).1).1.1, rfl, ?_, ?_⟩, hhas, hf, ?_⟩
    · simp only [goneM, noteM, he, List.append_assoc, List.cons_append, List.nil_append]
    · rw [← hek]; exact hin.1
    · rw [← hek]; exact hin.2
    · intro e hq; show 1 ≤ e.1 ∧ e.1 < ((bodyM s fn pick).2.fns.length : Int); rw [hf]; exact hkeys e hq
  · refine ⟨[(1, (fn : Int))], ?_, .inl rfl, hhas, hf, ?_⟩
    · simp only [noteM, he]
    · intro e hq; show 1 ≤ e.1 ∧ e.1 < ((bodyM s fn pick).2.fns.length : Int); rw [hf]; exact hkeys e hq

theorem KeysIn.see {s : Mgr} (h : KeysIn s) (fn : Nat) (args : List Int) : KeysIn (seeM s fn args) := h
theorem KeysIn.end_ {s : Mgr} (h : KeysIn s) (fn : Int) (own : List Int) (c : Int) : KeysIn (endM s fn own c).2 := by
  unfold endM
  split
  · split <;> exact h
  · exact h
theorem KeysIn.new {fs : List Fn} {pub : List (List Bool)} {cap : Int} {picks : List Int} : KeysIn (newM fs pub cap picks) := by
  intro e he; simp [newM] at he
/-- How a call ends. -/
theorem end_ev (s : Mgr) (fn : Int) (own : List Int) (c : Int) (hc : c = 0 ∨ s.cache.has fn = true) : ∃ es, (endM s fn own c).2.events = s.events ++ es ∧
    ((es = [] ∧ (endM s fn own c).1 = ([], false, c) ∧ s.cache.has fn = false) ∨ (es = [(3, fn)] ∧ (endM s fn own c).1 = ([], false, w64 (c + 50))) ∨ (es = [(2, fn)] ∧ (endM s fn own c).1.2 = (true, c))) := by
  unfold endM
  cases hh : s.cache.has fn
  · exact ⟨[], by simp, .inl ⟨rfl, by simp, rfl⟩⟩
  · cases hg : guardBad s fn own
    · exact ⟨[(2, fn)], by simp [noteM], .inr (.inr ⟨rfl, by simp⟩)⟩
    · exact ⟨[(3, fn)], by simp [noteM], .inr (.inl ⟨rfl, by simp⟩)⟩

theorem charge_law {s : Mgr} (hk : KeysIn s) (hl : ∀ f ∈ s.fns, f.l.length ≤ 4294967296) (fn : Int) (args : List Int) : chargeOk s fn args ∧ KeysIn (enterM s fn args).2 ∧ (enterM s fn args).2.fns = s.fns := by
  unfold chargeOk enterM
  by_cases hout : (decide (fn < 1) || decide ((s.fns.length : Int) ≤ fn)) = true
  · rw [if_pos hout]
    exact ⟨⟨[], by simp, by simp, by simp, rfl, rfl, by simp⟩, hk, rfl⟩
  rw [if_neg hout]
  simp only [Bool.or_eq_true, decide_eq_true_eq, not_or] at hout
  obtain ⟨k, rfl⟩ : ∃ k : Nat, fn = (k : Int) := ⟨fn.toNat, by omega⟩
  simp only [Int.toNat_natCast]
  have hk1 : 1 ≤ k := by omega
  have hk2 : k < s.fns.length := by omega
  generalize hown : seenM s k args = own
  generalize hpk : s.picks.headD 0 = pk
  have hks := hk.see k args
  have hse : (seeM s k args).events = s.events := rfl
  have hsf : (seeM s k args).fns = s.fns := rfl
  generalize seeM s k args = s2 at *
  rw [← hse, ← hsf]
  rw [← hsf] at hk2 hl
  have hself : evOk s2.fns.length k (2, (k : Int)) = true ∧ evOk s2.fns.length k (3, (k : Int)) = true ∧ evOk s2.fns.length k (1, (k : Int)) = true ∧ (∀ j : Int, 1 ≤ j → j < s2.fns.length → evOk s2.fns.length k (4, j) = true) := by
    refine ⟨?_, ?_, ?_, fun j h1 h2 => ?_⟩ <;>
    · unfold evOk
      simp
      omega
  obtain ⟨hs2, hs3, hs1, hs4⟩ := hself
  unfold midM
  split
  · -- compiled
    obtain ⟨es, he1, he2, he3, he4, he5⟩ := compiles_ev (pick := pk) hks hk1 hk2
    have hlen : w64 (2 * (lenM s2 k : Nat)) = wantM s2.fns [(1, (k : Int))] ∧ 0 ≤ w64 (2 * (lenM s2 k : Nat)) ∧ w64 (2 * (lenM s2 k : Nat)) ≤ 8589934592 := by
      obtain ⟨f, hf⟩ : ∃ f, s2.fns[k]? = some f := ⟨_, List.getElem?_eq_getElem hk2⟩
      have hfl := hl f (List.mem_of_getElem? hf)
      have e1 : lenM s2 k = f.l.length := by unfold lenM; rw [hf]
      have e2 : lenI s2.fns k = f.l.length := by unfold lenI; simp only [Int.toNat_natCast]; rw [hf]
      have e3 : w64 (2 * ((f.l.length : Nat) : Int)) = 2 * f.l.length := w64_small (by omega) (by omega)
      rw [e1, e3]
      refine ⟨?_, by omega, by omega⟩
      simp only [wantM, List.foldl_cons, List.foldl_nil, wantE]
      rw [e2, e3, Int.zero_add, e3]; rfl
    obtain ⟨fs, hf1, hf2⟩ := end_ev (compilesM s2 k pk) (k : Int) own (w64 (2 * (lenM s2 k : Nat))) (.inr he3)
    obtain ⟨hw1, hw2, hw3⟩ := hlen
    generalize w64 (2 * (lenM s2 k : Nat)) = c at *
    have hkeep := he5.end_ (k : Int) own c
    have hfn : (endM (compilesM s2 k pk) (k : Int) own c).2.fns = s2.fns := (endM_ev _ _ _ _).2.trans he4
    refine ⟨⟨es ++ fs, by simp only; rw [hf1, he1, List.append_assoc], ?_, ?_, ?_⟩, hkeep, hfn⟩
    · rcases he2 with rfl | ⟨j, rfl, _⟩ <;> rcases hf2 with ⟨rfl, _⟩ | ⟨rfl, _⟩ | ⟨rfl, _⟩ <;> simp
    · intro e hq
      rcases he2 with rfl | ⟨j, rfl, hj1, hj2⟩ <;> rcases hf2 with ⟨rfl, _⟩ | ⟨rfl, _⟩ | ⟨rfl, _⟩ <;> simp at hq <;> rcases hq with rfl | rfl | rfl <;> first | assumption | exact hs4 _ hj1 hj2
    · have hwe : wantM s2.fns es = c ∧ entM es = false := by
        rcases he2 with rfl | ⟨j, rfl, hj1, hj2⟩
        · exact ⟨hw1.symm, rfl⟩
        · refine ⟨?_, rfl⟩
          rw [hw1]; rfl
      have hwa : ∀ fs, wantM s2.fns (es ++ fs) = fs.foldl (wantE s2.fns) c := by intro fs; unfold wantM; rw [List.foldl_append]; exact congrArg (fun x => fs.foldl (wantE s2.fns) x) hwe.1
      have hea : ∀ fs, entM (es ++ fs) = fs.foldl entE false := by intro fs; unfold entM; rw [List.foldl_append]; exact congrArg (fun x => fs.foldl entE x) hwe.2
      rw [hwa, hea]
      rcases hf2 with ⟨rfl, hf3, hf4⟩ | ⟨rfl, hf3⟩ | ⟨rfl, hf3⟩
      · rw [he3] at hf4; simp at hf4
      · rw [hf3]; refine ⟨?_, rfl, by simp⟩; simp [wantE]
      · rw [hf3]; refine ⟨?_, rfl, fun _ => rfl⟩; simp [wantE]
  split
  · -- thrown away
    have hk3 : KeysIn (goneM { s2 with cache := s2.cache.drop k } k) := fun e he => hks.drop k e he
    obtain ⟨fs, hf1, hf2⟩ := end_ev (goneM { s2 with cache := s2.cache.drop k } k) (k : Int) own 0 (.inl rfl)
    have hfn : (endM (goneM { s2 with cache := s2.cache.drop k } k) (k : Int) own 0).2.fns = s2.fns := (endM_ev _ _ _ _).2
    refine ⟨⟨(4, (k : Int)) :: fs, ?_, ?_, ?_, ?_⟩, hk3.end_ _ _ _, hfn⟩
    · simp only; rw [hf1]; simp [goneM, noteM]
    · rcases hf2 with ⟨rfl, _⟩ | ⟨rfl, _⟩ | ⟨rfl, _⟩ <;> simp
    · intro e hq
      have h4 := hs4 (k : Int) (by omega) (by omega)
      rcases hf2 with ⟨rfl, _⟩ | ⟨rfl, _⟩ | ⟨rfl, _⟩ <;> simp at hq
      · rw [hq]; exact h4
      · rcases hq with rfl | rfl <;> assumption
      · rcases hq with rfl | rfl <;> assumption
    · rcases hf2 with ⟨rfl, hf3, hf4⟩ | ⟨rfl, hf3⟩ | ⟨rfl, hf3⟩
      · rw [hf3]; exact ⟨rfl, rfl, by simp⟩
      · rw [hf3]; exact ⟨rfl, rfl, by simp⟩
      · rw [hf3]; exact ⟨rfl, rfl, fun _ => rfl⟩
  · obtain ⟨fs, hf1, hf2⟩ := end_ev s2 (k : Int) own 0 (.inl rfl)
    have hfn : (endM s2 (k : Int) own 0).2.fns = s2.fns := (endM_ev _ _ _ _).2
    refine ⟨⟨fs, hf1, ?_, ?_, ?_⟩, hks.end_ _ _ _, hfn⟩
    · rcases hf2 with ⟨rfl, _⟩ | ⟨rfl, _⟩ | ⟨rfl, _⟩ <;> simp
    · intro e hq
      rcases hf2 with ⟨rfl, _⟩ | ⟨rfl, _⟩ | ⟨rfl, _⟩ <;> simp at hq <;> rw [hq] <;> assumption
    · rcases hf2 with ⟨rfl, hf3, hf4⟩ | ⟨rfl, hf3⟩ | ⟨rfl, hf3⟩
      · rw [hf3]; exact ⟨rfl, rfl, by simp⟩
      · rw [hf3]; exact ⟨rfl, rfl, by simp⟩
      · rw [hf3]; exact ⟨rfl, rfl, fun _ => rfl⟩

end Go.Proofs.YtkonigmefmgepaaGreatDoor.M
