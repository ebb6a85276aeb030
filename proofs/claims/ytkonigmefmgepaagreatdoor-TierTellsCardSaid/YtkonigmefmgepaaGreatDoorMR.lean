/- The document's manager in plain Lean, and that it answers as the manager does (own work). -/
import Derived.Test.YtkonigmefmgepaaGreatDoorL1
namespace Go.Proofs.YtkonigmefmgepaaGreatDoor.M

structure Ent where
  fn : Int
  body : List Ins
  made : Bool
  param : Int
  n : Int
structure RM where
  fns : List Fn
  pub : List (List Bool)
  cap : Int
  picks : List Int
  cache : List Ent
  events : List (Int × Int)
def argR (args : List Int) (i : Int) : Int := (args[i.toNat]?).getD 0
def lookR (cs : List Ent) (k : Int) : Option Ent := cs.find? fun e => e.fn == k
def noteR (r : RM) (k fn : Int) : RM := { r with events := r.events ++ [(k, fn)] }
def dropR (r : RM) (k : Int) : RM := noteR { r with cache := r.cache.filter fun e => e.fn != k } 4 k
def entR (r : RM) (f : Fn) (fn : Nat) (pick : Int) (args : List Int) : Ent :=
  match (if pick == 2 then fo (openM r.pub fn) f.params.toNat 0 else none) with
  | some i => ⟨fn, spec i (argR args i) f.params f.l, true, i, argR args i⟩
  | none => ⟨fn, fold f.l, false, 0, 0⟩
def roomR (r : RM) : RM := if decide (r.cap ≤ (r.cache.length : Int)) then (match r.cache with
  | [] => r
  | e :: _ => dropR r e.fn) else r
def putR (r : RM) (e : Ent) : RM := { roomR r with cache := (roomR r).cache ++ [e] }
def midR (r : RM) (f : Fn) (fn : Nat) (pick : Int) (args : List Int) : Int × RM :=
  if (pick == 1 || pick == 2) && !(lookR r.cache fn).isSome then (w64 (2 * (f.l.length : Nat)), putR (noteR r 1 fn) (entR r f fn pick args))
  else if pick == 3 && (lookR r.cache fn).isSome then (0, dropR r fn) else (0, r)
def endR (r : RM) (fn : Int) (args : List Int) (c : Int) : (List Ins × Bool × Int) × RM := match lookR r.cache fn with
  | none => (([], false, c), r)
  | some e => if e.made && argR args e.param != e.n then (([], false, w64 (c + 50)), noteR r 3 fn) else ((e.body, true, c), noteR r 2 fn)
def popR (r : RM) : RM := { r with picks := r.picks.tail }
def enterR (r : RM) (fn : Int) (args : List Int) : (List Ins × Bool × Int) × RM :=
  if decide (fn < 1) || decide ((r.fns.length : Int) ≤ fn) then (([], false, 0), r)
  else match r.fns[fn.toNat]? with
    | none => (([], false, 0), r)
    | some f => endR (midR (popR r) f fn.toNat (r.picks.headD 0) args).2 fn.toNat args (midR (popR r) f fn.toNat (r.picks.headD 0) args).1
def newR (fs : List Fn) (pub : List (List Bool)) (cap : Int) (picks : List Int) : RM := ⟨fs, pub, min (max cap 1) 32, picks, [], []⟩

/-! ### Keys -/
theorem look_none {cs : List Ent} {k : Int} (h : lookR cs k = none) : k ∉ cs.map (·.fn) := by
  intro hk
  obtain ⟨e, he, rfl⟩ := List.mem_map.1 hk
  have := List.find?_eq_none.1 h e he
  simp at this
theorem look_some {cs : List Ent} {k : Int} {e : Ent} (h : lookR cs k = some e) : e ∈ cs ∧ e.fn = k := by
  refine ⟨List.mem_of_find?_eq_some h, ?_⟩
  have := List.find?_some h
  simpa using this
theorem look_filter (cs : List Ent) (a k : Int) : lookR (cs.filter fun e => e.fn != a) k = if k = a then none else lookR cs k := by
  induction cs with
  | nil => simp [lookR]
  | cons e cs ih =>
    unfold lookR at *
    rw [List.filter_cons]
    by_cases h1 : e.fn = a
    · rw [if_neg (by simp [h1]), ih, List.find?_cons]
      by_cases h2 : k = a
      · simp [h2]
      · rw [if_neg h2, if_neg h2, show (e.fn == k) = false from by rw [h1]; simpa using fun h => h2 h.symm]
    · rw [if_pos (by simpa using h1), List.find?_cons, List.find?_cons]
      by_cases h2 : e.fn = k
      · rw [show (e.fn == k) = true from by simpa using h2]
        simp only
        rw [if_neg (by rw [← h2]; exact h1)]
      · rw [show (e.fn == k) = false from by simpa using h2]
        exact ih
theorem look_snoc (cs : List Ent) (e : Ent) (k : Int) (h : lookR cs e.fn = none) : lookR (cs ++ [e]) k = if k = e.fn then some e else lookR cs k := by
  unfold lookR at *
  rw [List.find?_append]
  by_cases h2 : k = e.fn
  · subst h2
    rw [h]
    simp
  · rw [if_neg h2]
    simp [show (e.fn == k) = false from by simpa using fun h => h2 h.symm]
theorem aset_get {β : Type} (a k : Int) (v : β) : ∀ es : List (Int × β), aget k (aset a v es) = if k = a then some v else aget k es
  | [] => by simp only [aset, aget]
  | e :: es => by
    simp only [aset, aget]
    by_cases h1 : a = e.1
    · rw [if_pos h1]
      simp only [aget]
      by_cases h2 : k = a
      · rw [if_pos h2, if_pos h2]
      · rw [if_neg h2, if_neg h2, if_neg (by rw [← h1]; exact h2)]
    · rw [if_neg h1]
      simp only [aget]
      by_cases h2 : k = e.1
      · rw [if_pos h2, if_pos h2]
        rw [if_neg (by rw [h2]; exact fun h => h1 h.symm)]
      · rw [if_neg h2, if_neg h2]
        exact aset_get a k v es
theorem aset_keys {β : Type} {a k : Int} {v : β} {es : List (Int × β)} (h : k ∈ (aset a v es).map (·.1)) : k = a ∨ k ∈ es.map (·.1) := by
  obtain ⟨e, he, rfl⟩ := List.mem_map.1 h
  rcases mem_aset he with rfl | he
  · exact .inl rfl
  · exact .inr (List.mem_map_of_mem he)
theorem aset_nd {β : Type} {a : Int} {v : β} : ∀ {es : List (Int × β)}, (es.map (·.1)).Nodup → ((aset a v es).map (·.1)).Nodup
  | [], _ => by simp [aset]
  | e :: es, h => by
    simp only [List.map_cons, List.nodup_cons] at h
    simp only [aset]
    split
    · rename_i h1
      simp only [List.map_cons, List.nodup_cons]
      rw [h1]
      exact h
    · rename_i h1
      simp only [List.map_cons, List.nodup_cons]
      refine ⟨fun hk => ?_, aset_nd h.2⟩
      rcases aset_keys hk with hq | hq
      · exact h1 hq.symm
      · exact h.1 hq
theorem aget_no {β : Type} {k : Int} : ∀ {es : List (Int × β)}, k ∉ es.map (·.1) → aget k es = none
  | [], _ => rfl
  | e :: es, h => by
    simp only [List.map_cons, List.mem_cons, not_or] at h
    simp only [aget]
    rw [if_neg h.1]
    exact aget_no h.2
theorem adel_get {β : Type} (a k : Int) : ∀ {es : List (Int × β)}, (es.map (·.1)).Nodup → aget k (adel a es) = if k = a then none else aget k es
  | [], _ => by simp [adel, aget]
  | e :: es, h => by
    simp only [List.map_cons, List.nodup_cons] at h
    simp only [adel, aget]
    by_cases h1 : a = e.1
    · rw [if_pos h1]
      by_cases h2 : k = a
      · rw [if_pos h2]
        exact aget_no (by rw [h2, h1]; exact h.1)
      · rw [if_neg h2, if_neg (by rw [← h1]; exact h2)]
    · rw [if_neg h1]
      simp only [aget]
      by_cases h2 : k = e.1
      · rw [if_pos h2, if_pos h2, if_neg (by rw [h2]; exact fun h => h1 h.symm)]
      · rw [if_neg h2, if_neg h2]
        exact adel_get a k h.2
theorem adel_nd {β : Type} {a : Int} : ∀ {es : List (Int × β)}, (es.map (·.1)).Nodup → ((adel a es).map (·.1)).Nodup
  | [], h => h
  | e :: es, h => by
    simp only [List.map_cons, List.nodup_cons] at h
    simp only [adel]
    split
    · exact h.2
    · simp only [List.map_cons, List.nodup_cons]
      refine ⟨fun hk => ?_, adel_nd h.2⟩
      obtain ⟨x, hx, hxe⟩ := List.mem_map.1 hk
      exact h.1 (by rw [← hxe]; exact List.mem_map_of_mem (mem_adel hx))

/-! ### The two stand alike -/
def madeG (e : Ent) : Option (Int × Int) := if e.made then some (e.param, e.n) else none
structure Sim (m : Mgr) (r : RM) : Prop where
  fns : r.fns = m.fns
  pub : r.pub = m.pub
  picks : r.picks = m.picks
  events : r.events = m.events
  cap : r.cap = m.cache.cap
  le : (r.cache.length : Int) ≤ r.cap
  order : m.cache.order = r.cache.map (·.fn)
  nd : (r.cache.map (·.fn)).Nodup
  bod : ∀ k, aget k m.cache.bodies = (lookR r.cache k).map (·.body)
  gua : ∀ k, aget k m.guards = (lookR r.cache k).bind madeG
  bnd : (m.cache.bodies.map (·.1)).Nodup
  gnd : (m.guards.map (·.1)).Nodup
  made : ∀ e ∈ r.cache, e.made = true → 0 ≤ e.param ∧ e.param.toNat < paramsM m e.fn.toNat ∧ openM m.pub e.fn.toNat e.param.toNat = true
  par : ∀ f ∈ m.fns, clamp8 f.params = f.params

theorem Sim.has {m : Mgr} {r : RM} (h : Sim m r) (k : Int) : m.cache.has k = (lookR r.cache k).isSome := by
  unfold Cache.has
  rw [h.bod]
  cases lookR r.cache k <;> rfl
theorem Sim.note {m : Mgr} {r : RM} (h : Sim m r) (k fn : Int) : Sim (noteM m k fn) (noteR r k fn) :=
  { h with events := by show _ ++ _ = _ ++ _; rw [h.events] }
theorem Sim.see {m : Mgr} {r : RM} (h : Sim m r) (fn : Nat) (args : List Int) : Sim (seeM m fn args) (popR r) :=
  { h with picks := by show r.picks.tail = m.picks.tail; rw [h.picks] }
theorem Sim.drop {m : Mgr} {r : RM} (h : Sim m r) {k : Int} (hk : m.cache.has k = true) : Sim (goneM { m with cache := m.cache.drop k } k) (dropR r k) := by
  have hd : m.cache.drop k = { m.cache with order := m.cache.order.filter (· != k), bodies := adel k m.cache.bodies } := by unfold Cache.drop; rw [if_pos hk]
  refine Sim.note (m := { m with cache := m.cache.drop k, guards := adel k m.guards }) (r := { r with cache := r.cache.filter fun e => e.fn != k }) ?_ 4 k
  rw [hd]
  refine { fns := h.fns, pub := h.pub, picks := h.picks, events := h.events, cap := h.cap, le := ?_, order := ?_, nd := ?_, bod := ?_, gua := ?_, bnd := adel_nd h.bnd, gnd := adel_nd h.gnd, made := ?_, par := h.par }
  · have := List.length_filter_le (fun e : Ent => e.fn != k) r.cache
    have := h.le
    show (((r.cache.filter fun e => e.fn != k).length : Nat) : Int) ≤ r.cap
    omega
  · show m.cache.order.filter (· != k) = _
    rw [h.order, List.filter_map]
    rfl
  · exact h.nd.sublist (List.Sublist.map _ List.filter_sublist)
  · intro j
    show aget j (adel k m.cache.bodies) = (lookR (r.cache.filter fun e => e.fn != k) j).map (·.body)
    rw [adel_get k j h.bnd, look_filter]
    split
    · rfl
    · exact h.bod j
  · intro j
    show aget j (adel k m.guards) = (lookR (r.cache.filter fun e => e.fn != k) j).bind madeG
    rw [adel_get k j h.gnd, look_filter]
    split
    · rfl
    · exact h.gua j
  · intro e he
    exact h.made e ((List.mem_filter.1 he).1)
/-- A body that comes in, where there is room. -/
theorem Sim.add {m : Mgr} {r : RM} (h : Sim m r) {e : Ent} (hn : lookR r.cache e.fn = none) (hl : (r.cache.length : Int) < r.cap)
    (hm : e.made = true → 0 ≤ e.param ∧ e.param.toNat < paramsM m e.fn.toNat ∧ openM m.pub e.fn.toNat e.param.toNat = true)
    {g : List (Int × (Int × Int))} (hg : ∀ k, aget k g = if k = e.fn then madeG e else aget k m.guards) (hgn : (g.map (·.1)).Nodup) :
    Sim { m with guards := g, cache := { m.cache with order := m.cache.order ++ [e.fn], bodies := aset e.fn e.body m.cache.bodies } } { r with cache := r.cache ++ [e] } := by
  refine { fns := h.fns, pub := h.pub, picks := h.picks, events := h.events, cap := h.cap, le := ?_, order := ?_, nd := ?_, bod := ?_, gua := ?_, bnd := aset_nd h.bnd, gnd := hgn, made := ?_, par := h.par }
  · simp only [List.length_append, List.length_singleton]
    omega
  · simp [h.order]
  · simp only [List.map_append, List.map_cons, List.map_nil]
    rw [List.nodup_append]
    exact ⟨h.nd, by simp, fun a ha b hb => by simp only [List.mem_singleton] at hb; rw [hb]; intro hq; subst hq; exact look_none hn ha⟩
  · intro k
    show aget k (aset e.fn e.body m.cache.bodies) = (lookR (r.cache ++ [e]) k).map (·.body)
    rw [aset_get, look_snoc _ _ _ hn]
    split
    · rfl
    · exact h.bod k
  · intro k
    show aget k g = (lookR (r.cache ++ [e]) k).bind madeG
    rw [hg, look_snoc _ _ _ hn]
    split
    · rfl
    · exact h.gua k
  · intro x hx
    rcases List.mem_append.1 hx with hx | hx
    · exact h.made x hx
    · simp only [List.mem_singleton] at hx
      subst hx
      exact hm

theorem Sim.put {m : Mgr} {r : RM} (h : Sim m r) (h1 : 1 ≤ m.cache.cap) {e : Ent} (hn : lookR r.cache e.fn = none)
    (hm : e.made = true → 0 ≤ e.param ∧ e.param.toNat < paramsM m e.fn.toNat ∧ openM m.pub e.fn.toNat e.param.toNat = true)
    {g : List (Int × (Int × Int))} (hg : ∀ k, aget k g = if k = e.fn then madeG e else aget k m.guards) (hgn : (g.map (·.1)).Nodup) :
    Sim (putM { m with guards := g } e.fn e.body) (putR r e) := by
  have hhas : m.cache.has e.fn = false := by rw [h.has, hn]; rfl
  have hle := h.le
  have hol : m.cache.order.length = r.cache.length := by rw [h.order, List.length_map]
  by_cases hfull : r.cap ≤ (r.cache.length : Int)
  · cases hc : r.cache with
    | nil => rw [hc] at hfull; have := h.cap; simp at hfull; omega
    | cons x xs =>
      have hxl : lookR r.cache x.fn = some x := by rw [hc]; simp [lookR]
      have hxh : m.cache.has x.fn = true := by rw [h.has, hxl]; rfl
      have hne : x.fn ≠ e.fn := by intro hq; rw [hq, hn] at hxl; cases hxl
      have hhead : m.cache.order.headD 0 = x.fn := by rw [h.order, hc]; rfl
      have hf : m.cache.full e.fn = true := by
        unfold Cache.full
        rw [hhas, hol, ← h.cap]
        simp; omega
      have hroom : m.cache.room e.fn = ((x.fn, true), m.cache.drop x.fn) := by
        unfold Cache.room
        rw [if_pos hf, hhead, hxh]
      have hd := h.drop hxh
      have hrr : roomR r = dropR r x.fn := by
        unfold roomR
        rw [decide_eq_true hfull, if_pos rfl, hc]
      unfold putM putR
      rw [hrr]
      simp only [Cache.put, hroom, if_true]
      have hlk : lookR (dropR r x.fn).cache e.fn = none := by
        show lookR (r.cache.filter fun e => e.fn != x.fn) e.fn = none
        rw [look_filter, if_neg hne.symm, hn]
      have hlt : ((dropR r x.fn).cache.length : Int) < (dropR r x.fn).cap := by
        show (((r.cache.filter fun e => e.fn != x.fn).length : Nat) : Int) < r.cap
        rw [hc, List.filter_cons, if_neg (by simp)]
        have := List.length_filter_le (fun e : Ent => e.fn != x.fn) xs
        rw [hc] at hle
        simp only [List.length_cons] at hle
        omega
      have := hd.add (e := e) (g := adel x.fn g) hlk hlt hm (fun k => ?_) (adel_nd hgn)
      · exact this
      · rw [adel_get x.fn k hgn, hg]
        show _ = if k = e.fn then madeG e else aget k (adel x.fn m.guards)
        rw [adel_get x.fn k h.gnd]
        by_cases hk : k = x.fn
        · subst hk
          rw [if_pos rfl, if_neg hne, if_pos rfl]
        · rw [if_neg hk, if_neg hk]
  · have hf : m.cache.full e.fn = false := by
      unfold Cache.full
      rw [hhas, hol, ← h.cap]
      simp; omega
    have hdrop : m.cache.drop e.fn = m.cache := by unfold Cache.drop; rw [hhas]; rfl
    have hroom : m.cache.room e.fn = ((0, false), m.cache) := by
      unfold Cache.room
      rw [hf, if_neg (by simp), hdrop]
    have hrr : roomR r = r := by
      unfold roomR
      rw [decide_eq_false hfull, if_neg (by simp)]
    unfold putM putR
    rw [hrr]
    simp only [Cache.put, hroom, Bool.false_eq_true, if_false]
    exact h.add hn (by omega) hm hg hgn

theorem seen_at {s : Mgr} {fn i : Nat} {args : List Int} (hi : i < paramsM s fn) (ho : openM s.pub fn i = true) : (seenM s fn args)[i]? = some ((args[i]?).getD 0) := by
  unfold seenM
  rw [List.getElem?_map, List.getElem?_range hi]
  simp [ho]
theorem fo_some {p : Nat → Bool} : ∀ {f i r : Nat}, fo p f i = some r → p r = true ∧ r < i + f
  | 0, i, r, h => by simp [fo] at h
  | f + 1, i, r, h => by
    unfold fo at h
    split at h
    · rename_i hp
      simp only [Option.some.injEq] at h
      subst h
      exact ⟨hp, by omega⟩
    · obtain ⟨h1, h2⟩ := fo_some h
      exact ⟨h1, by omega⟩
theorem run_see {s : Mgr} (ok : Ok s) {fn i : Nat} {f : Fn} (hf : s.fns[fn]? = some f) {args : List Int} (hi : i < paramsM s fn) (ho : openM s.pub fn i = true) : runM (seeM s fn args) fn i = argR args i := by
  obtain ⟨p, hp, _⟩ := ok.prof fn f hf
  have hs := seen_at (args := args) hi ho
  have : (seeM s fn args).prof[fn]? = some (seeF p (seenM s fn args)) := by
    show (seeP s.prof fn (seenM s fn args))[fn]? = _
    unfold seeP
    rw [hp]
    simp only
    rw [List.getElem?_set, if_pos rfl, if_pos (List.getElem?_eq_some_iff.1 hp).1]
  unfold runM
  rw [this]
  simp only [seeF, hs, seeR]
  unfold argR
  rw [Int.toNat_natCast]

theorem Sim.mid {m : Mgr} {r : RM} (h : Sim m r) (ok : Ok m) {fn : Nat} {f : Fn} (hf : m.fns[fn]? = some f) (pick : Int) (args : List Int) :
    (midR (popR r) f fn pick args).1 = (midM (seeM m fn args) fn pick).1 ∧ Sim (midM (seeM m fn args) fn pick).2 (midR (popR r) f fn pick args).2 := by
  have hs := h.see fn args
  have hok := ok.see fn args
  have hfs : (seeM m fn args).fns[fn]? = some f := hf
  unfold midM midR
  rw [hs.has]
  cases h1 : (pick == 1 || pick == 2) && !(lookR (popR r).cache fn).isSome
  · simp only [Bool.false_eq_true, if_false]
    cases h2 : pick == 3 && (lookR (popR r).cache fn).isSome
    · simp only [Bool.false_eq_true, if_false]
      exact ⟨trivial, hs⟩
    · simp only [if_true]
      refine ⟨trivial, hs.drop ?_⟩
      rw [hs.has]
      simp only [Bool.and_eq_true] at h2
      exact h2.2
  · simp only [if_true]
    have hnone : lookR (popR r).cache fn = none := by
      simp only [Bool.and_eq_true, Bool.not_eq_true', Option.isSome_eq_false_iff, Option.isNone_iff_eq_none] at h1
      exact h1.2
    have hlen : lenM (seeM m fn args) fn = f.l.length := by unfold lenM; rw [hfs]
    refine ⟨by rw [hlen], ?_⟩
    have hpar : paramsM m fn = f.params.toNat := by
      unfold paramsM
      rw [hf]
      simp only
      rw [h.par f (List.mem_of_getElem? hf)]
    have hpub : (popR r).pub = m.pub := h.pub
    have hfm : forM_ (seeM m fn args) fn pick = (if pick == 2 then fo (openM (popR r).pub fn) f.params.toNat 0 else none) := by
      unfold forM_
      rw [hpub, ← hpar]
      rfl
    unfold compilesM bodyM entR
    rw [hfs]
    simp only [hfm]
    cases hq : (if pick == 2 then fo (openM (popR r).pub fn) f.params.toNat 0 else none) with
    | none =>
      simp only
      exact (hs.note 1 fn).put (e := ⟨fn, fold f.l, false, 0, 0⟩) hok.cap hnone (by simp) (g := m.guards) (fun k => by
        split
        · rename_i hk
          subst hk
          rw [h.gua, show lookR r.cache (fn : Int) = none from hnone]
          rfl
        · rfl) h.gnd
    | some i =>
      simp only
      have hfo : fo (openM m.pub fn) f.params.toNat 0 = some i := by
        split at hq
        · rw [hpub] at hq; exact hq
        · simp at hq
      obtain ⟨hop, hlt⟩ := fo_some hfo
      have hi : i < paramsM m fn := by omega
      rw [run_see ok hf hi hop]
      exact (hs.note 1 fn).put (e := ⟨fn, spec i (argR args i) f.params f.l, true, i, argR args i⟩) hok.cap hnone (fun _ => ⟨Int.natCast_nonneg i, (by simpa using hi : ((i : Int)).toNat < paramsM m ((fn : Int)).toNat), (by simpa using hop : openM m.pub ((fn : Int)).toNat ((i : Int)).toNat = true)⟩) (g := aset fn ((i : Int), argR args i) m.guards) (fun k => aset_get _ _ _ _) (aset_nd h.gnd)

theorem Sim.end_ {m : Mgr} {r : RM} (h : Sim m r) (fn : Nat) (args : List Int) (c : Int) :
    (endR r fn args c).1 = (endM m fn (seenM m fn args) c).1 ∧ Sim (endM m fn (seenM m fn args) c).2 (endR r fn args c).2 := by
  unfold endM endR
  rw [h.has]
  cases hl : lookR r.cache fn with
  | none => exact ⟨rfl, h⟩
  | some e =>
    obtain ⟨he, hef⟩ := look_some hl
    have hget : m.cache.get fn = e.body := by unfold Cache.get; rw [h.bod, hl]; rfl
    have hbad : guardBad m fn (seenM m fn args) = (e.made && argR args e.param != e.n) := by
      unfold guardBad
      rw [h.gua, hl]
      simp only [Option.bind_some, madeG]
      cases hmd : e.made
      · rfl
      · obtain ⟨h0, h1, h2⟩ := h.made e he hmd
        rw [hef, Int.toNat_natCast] at h1 h2
        simp only [if_true, Bool.true_and]
        rw [seen_at h1 h2]
        rfl
    simp only [Option.isSome_some, if_true]
    rw [hbad, hget]
    cases hb : e.made && argR args e.param != e.n
    · simp only [Bool.false_eq_true, if_false]
      exact ⟨trivial, h.note 2 fn⟩
    · simp only [if_true]
      exact ⟨trivial, h.note 3 fn⟩

theorem seen_mid {m : Mgr} {fn : Nat} {args : List Int} {pick : Int} : seenM (midM (seeM m fn args) fn pick).2 fn args = seenM m fn args := by
  have h1 : (midM (seeM m fn args) fn pick).2.fns = m.fns := (midM_ev (seeM m fn args) fn pick).2
  have h2 : (midM (seeM m fn args) fn pick).2.pub = m.pub := midM_pub _ _ _
  unfold seenM paramsM
  rw [h1, h2]
theorem Sim.enter {m : Mgr} {r : RM} (h : Sim m r) (ok : Ok m) (fn : Int) (args : List Int) : (enterR r fn args).1 = (enterM m fn args).1 ∧ Sim (enterM m fn args).2 (enterR r fn args).2 := by
  unfold enterM enterR
  rw [h.fns]
  cases ho : decide (fn < 1) || decide ((m.fns.length : Int) ≤ fn)
  · simp only [Bool.false_eq_true, if_false]
    simp only [Bool.or_eq_false_iff, decide_eq_false_iff_not] at ho
    obtain ⟨f, hf⟩ : ∃ f, m.fns[fn.toNat]? = some f := ⟨_, List.getElem?_eq_getElem (by omega)⟩
    rw [hf]
    simp only
    rw [h.picks]
    obtain ⟨h1, h2⟩ := h.mid ok hf (m.picks.headD 0) args
    have h3 := h2.end_ fn.toNat args (midM (seeM m fn.toNat args) fn.toNat (m.picks.headD 0)).1
    rw [seen_mid] at h3
    rw [h1]
    exact h3
  · simp only [if_true]
    exact ⟨trivial, h⟩
theorem Sim.new {fs : List Fn} {pub : List (List Bool)} {cap : Int} {picks : List Int} (hp : ∀ f ∈ fs, clamp8 f.params = f.params) : Sim (newM fs pub cap picks) (newR fs pub cap picks) := by
  refine { fns := rfl, pub := rfl, picks := rfl, events := rfl, cap := rfl, le := ?_, order := rfl, nd := by simp [newR], bod := fun k => rfl, gua := fun k => rfl, bnd := by simp [newM], gnd := by simp [newM], made := fun e he => by simp [newR] at he, par := hp }
  show (((0 : Nat)) : Int) ≤ min (max cap 1) 32
  omega
end Go.Proofs.YtkonigmefmgepaaGreatDoor.M
