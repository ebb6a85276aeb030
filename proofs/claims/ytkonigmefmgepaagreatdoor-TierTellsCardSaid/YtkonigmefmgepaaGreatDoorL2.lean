/- The laws of the tiers, in plain Lean: what is kept, what goes, whose it is (own work). -/
import Derived.Test.YtkonigmefmgepaaGreatDoorL1
import Derived.KernelRfl
namespace Go.Proofs.YtkonigmefmgepaaGreatDoor.M
set_option linter.unusedVariables false
set_option linter.unusedSimpArgs false

/-! ### Kept until it is thrown away -/
structure Kp (special : Bool) (x0 : Int) (B : List Ins) (n : Nat) (s : Mgr) : Prop where
  cache : s.cache = ⟨1, [1], [(1, B)]⟩
  fns : s.fns = pairM
  pub : s.pub = [[], [true]]
  picks : s.picks = []
  guards : s.guards = if special then [(1, (0, x0))] else []
  events : s.events.length = n
theorem keeps_next {special : Bool} {x0 : Int} {B : List Ins} {n : Nat} {s : Mgr} (h : Kp special x0 B n s) (y : Int) :
    (enterM s 1 [y]).1 = (if !special || y == x0 then (B, true, 0) else ([], false, 50)) ∧ Kp special x0 B (n + 1) (enterM s 1 [y]).2 := by
  obtain ⟨cache, fns, pub, picks, prof, guards, events⟩ := s
  obtain ⟨h1, h2, h3, h4, h5, h6⟩ := h
  simp only at h1 h2 h3 h4 h5 h6
  subst h1; subst h2; subst h3; subst h4; subst h5
  have e1 : enterM ⟨⟨1, [1], [(1, B)]⟩, pairM, [[], [true]], [], prof, (if special then [(1, (0, x0))] else []), events⟩ 1 [y] =
      endM ⟨⟨1, [1], [(1, B)]⟩, pairM, [[], [true]], [], seeP prof 1 [y], (if special then [(1, (0, x0))] else []), events⟩ 1 [y] 0 := by kernel_rfl
  rw [e1]
  cases special
  · have e2 : endM ⟨⟨1, [1], [(1, B)]⟩, pairM, [[], [true]], [], seeP prof 1 [y], (if false = true then [(1, (0, x0))] else []), events⟩ 1 [y] 0 =
      ((B, true, 0), noteM ⟨⟨1, [1], [(1, B)]⟩, pairM, [[], [true]], [], seeP prof 1 [y], [], events⟩ 2 1) := by kernel_rfl
    rw [e2]
    exact ⟨rfl, ⟨rfl, rfl, rfl, rfl, rfl, by simp [noteM, h6]⟩⟩
  · have e2 : endM ⟨⟨1, [1], [(1, B)]⟩, pairM, [[], [true]], [], seeP prof 1 [y], (if true = true then [(1, (0, x0))] else []), events⟩ 1 [y] 0 =
      (if y != x0 then (([], false, 50), noteM ⟨⟨1, [1], [(1, B)]⟩, pairM, [[], [true]], [], seeP prof 1 [y], [(1, (0, x0))], events⟩ 3 1)
        else ((B, true, 0), noteM ⟨⟨1, [1], [(1, B)]⟩, pairM, [[], [true]], [], seeP prof 1 [y], [(1, (0, x0))], events⟩ 2 1)) := by kernel_rfl
    rw [e2]
    cases hy : y == x0
    · simp only [bne, hy, Bool.not_false, if_true, Bool.not_true, Bool.or_self, Bool.false_eq_true, if_false]
      exact ⟨trivial, ⟨rfl, rfl, rfl, rfl, rfl, by simp [noteM, h6]⟩⟩
    · simp only [bne, hy, Bool.not_true, Bool.false_or, if_true, Bool.false_eq_true, if_false]
      exact ⟨trivial, ⟨rfl, rfl, rfl, rfl, rfl, by simp [noteM, h6]⟩⟩
def keepB (special : Bool) (x : Int) : List Ins := if special then [⟨1, 0, w64 (x * 3)⟩, ⟨18, 0, 0⟩] else [⟨2, 0, 0⟩, ⟨1, 0, 3⟩, ⟨8, 0, 0⟩, ⟨18, 0, 0⟩]
theorem keeps_first (special : Bool) (x : Int) : (enterM (newM pairM [[], [true]] 1 [if special then 2 else 1]) 1 [x]).1 = (keepB special x, true, 8) ∧
    Kp special x (keepB special x) 2 (enterM (newM pairM [[], [true]] 1 [if special then 2 else 1]) 1 [x]).2 := by
  cases special
  · exact ⟨by kernel_rfl, ⟨by kernel_rfl, by kernel_rfl, by kernel_rfl, by kernel_rfl, by kernel_rfl, by kernel_rfl⟩⟩
  · let s2 : Mgr := (midM (seeM (newM pairM [[], [true]] 1 [2]) 1 [x]) 1 2).2
    have e1 : enterM (newM pairM [[], [true]] 1 [if true = true then 2 else 1]) 1 [x] = (if x != x then (([], false, 58), noteM s2 3 1) else ((keepB true x, true, 8), noteM s2 2 1)) := by kernel_rfl
    rw [e1]
    simp only [bne_self_eq_false, Bool.false_eq_true, if_false]
    exact ⟨trivial, ⟨by kernel_rfl, by kernel_rfl, by kernel_rfl, by kernel_rfl, by kernel_rfl, by kernel_rfl⟩⟩

/-! ### Picks past the first do not matter -/
theorem mid_picks (s : Mgr) (p : List Int) (fn : Nat) (pick : Int) : midM { s with picks := p } fn pick = ((midM s fn pick).1, { (midM s fn pick).2 with picks := p }) := by
  have hb : bodyM { s with picks := p } fn pick = ((bodyM s fn pick).1, { (bodyM s fn pick).2 with picks := p }) := by
    unfold bodyM
    have e1 : ({ s with picks := p } : Mgr).fns = s.fns := rfl
    have e2 : forM_ { s with picks := p } fn pick = forM_ s fn pick := rfl
    rw [e1, e2]
    cases s.fns[fn]? with
    | none => rfl
    | some f =>
      cases forM_ s fn pick with
      | none => rfl
      | some i => rfl
  have hc : compilesM { s with picks := p } fn pick = { compilesM s fn pick with picks := p } := by
    unfold compilesM putM
    rw [hb]
    have e1 : (noteM { (bodyM s fn pick).2 with picks := p } 1 fn).cache = (noteM (bodyM s fn pick).2 1 fn).cache := rfl
    simp only [e1]
    split <;> rfl
  unfold midM
  have e1 : ({ s with picks := p } : Mgr).cache = s.cache := rfl
  rw [hc, e1]
  split
  · rfl
  split <;> rfl
theorem end_picks (s : Mgr) (p : List Int) (fn : Int) (own : List Int) (c : Int) : endM { s with picks := p } fn own c = ((endM s fn own c).1, { (endM s fn own c).2 with picks := p }) := by
  unfold endM
  have e1 : ({ s with picks := p } : Mgr).cache = s.cache := rfl
  have e2 : guardBad { s with picks := p } fn own = guardBad s fn own := rfl
  rw [e1, e2]
  split
  · split <;> rfl
  · rfl
theorem mid_keeps (s : Mgr) (fn : Nat) (pick : Int) : (midM s fn pick).2.picks = s.picks := by
  have h := mid_picks s s.picks fn pick
  have e : ({ s with picks := s.picks } : Mgr) = s := rfl
  rw [e] at h
  rw [h]
theorem end_keeps (s : Mgr) (fn : Int) (own : List Int) (c : Int) : (endM s fn own c).2.picks = s.picks := by
  have h := end_picks s s.picks fn own c
  have e : ({ s with picks := s.picks } : Mgr) = s := rfl
  rw [e] at h
  rw [h]
/-- The same but for picks that are the same as long as there are any. -/
structure SameP (a b : Mgr) : Prop where
  eq : a = { b with picks := a.picks }
  picks : ∀ j : Nat, (a.picks[j]?).getD 0 = (b.picks[j]?).getD 0
theorem headD_at (p : List Int) : p.headD 0 = (p[0]?).getD 0 := by cases p <;> rfl
theorem tail_at (p : List Int) (j : Nat) : (p.tail[j]?) = p[j + 1]? := by cases p <;> rfl
theorem SameP.enter {a b : Mgr} (h : SameP a b) (fn : Int) (args : List Int) (hin : ¬ (decide (fn < 1) || decide ((b.fns.length : Int) ≤ fn)) = true) : (enterM a fn args).1 = (enterM b fn args).1 ∧ SameP (enterM a fn args).2 (enterM b fn args).2 := by
  obtain ⟨he, hp⟩ := h
  generalize hq : a.picks = q at *
  subst he
  unfold enterM
  have e1 : ({ b with picks := q } : Mgr).fns = b.fns := rfl
  rw [e1, if_neg hin, if_neg hin]
  have e2 : seenM { b with picks := q } fn.toNat args = seenM b fn.toNat args := rfl
  have e3 : seeM { b with picks := q } fn.toNat args = { seeM b fn.toNat args with picks := q.tail } := rfl
  have e4 : ({ b with picks := q } : Mgr).picks.headD 0 = b.picks.headD 0 := by rw [headD_at, headD_at]; exact hp 0
  rw [e2, e3, e4, mid_picks]
  simp only
  rw [end_picks]
  refine ⟨rfl, ⟨rfl, fun j => ?_⟩⟩
  simp only
  rw [end_keeps, mid_keeps]
  show (q.tail[j]?).getD 0 = (b.picks.tail[j]?).getD 0
  rw [tail_at, tail_at]
  exact hp (j + 1)
theorem SameP.own : SameP (newM pairM [[], [true]] 1 [2, 0, 0]) (newM pairM [[], [true]] 1 [2]) := ⟨rfl, fun j => by
  rcases j with _ | _ | _ | j <;> rfl⟩

/-! ### The oldest one goes -/
def evictNew (room n : Nat) : Mgr := newM (pairM.take 1 ++ (List.range n).flatMap fun _ => pairM.drop 1) [] room ((List.range n).map fun _ => 1)
def goneR : List (Int × Int) → Nat → Option Nat
  | [], g => some g
  | e :: es, g => if e.1 == 4 then (if e.2 == ((g + 1 : Nat) : Int) then goneR es (g + 1) else none) else goneR es g
/-- The functions that are kept behind k calls. -/
def kept (room k : Nat) : List Int := (List.range' (k - room + 1) (min k room)).map fun j : Nat => (j : Int)
def bodyE : List Ins := fold [⟨2, 0, 0⟩, ⟨1, 0, 3⟩, ⟨8, 0, 0⟩, ⟨18, 0, 0⟩]
theorem aget_all {B : List Ins} {j : Int} : ∀ {L : List Int}, aget j (L.map fun x => (x, B)) = if j ∈ L then some B else none
  | [] => rfl
  | x :: L => by
    simp only [List.map_cons, aget]
    by_cases h : j = x
    · subst h; simp
    · rw [if_neg h, aget_all]; simp [h]
theorem aset_all {B : List Ins} {j : Int} : ∀ {L : List Int}, j ∉ L → aset j B (L.map fun x => (x, B)) = (L ++ [j]).map fun x => (x, B)
  | [], _ => rfl
  | x :: L, h => by
    simp only [List.mem_cons, not_or] at h
    simp only [List.map_cons, aset, if_neg h.1, List.cons_append, aset_all h.2]
theorem kept_mem {room k : Nat} {j : Nat} : ((j : Int) ∈ kept room k) ↔ (k < j + room ∧ j ≤ k ∧ 1 ≤ j) := by
  unfold kept
  simp only [List.mem_map, List.mem_range'_1]
  constructor
  · rintro ⟨x, hx, he⟩
    have : x = j := by omega
    subst this; omega
  · intro h
    exact ⟨j, by omega, rfl⟩
theorem kept_next {room k : Nat} (h : k < room) : kept room (k + 1) = kept room k ++ [((k + 1 : Nat) : Int)] := by
  unfold kept
  rw [show k + 1 - room + 1 = 1 by omega, show k - room + 1 = 1 by omega, show min (k + 1) room = k + 1 by omega, show min k room = k by omega, List.range'_concat, List.map_append]
  simp [Nat.add_comm]
theorem kept_full {room k : Nat} (h0 : 1 ≤ room) (h : room ≤ k) : kept room k = ((k - room + 1 : Nat) : Int) :: (kept room k).tail ∧ kept room (k + 1) = (kept room k).tail ++ [((k + 1 : Nat) : Int)] ∧ ((k - room + 1 : Nat) : Int) ∉ (kept room k).tail := by
  obtain ⟨r, rfl⟩ : ∃ r, room = r + 1 := ⟨room - 1, by omega⟩
  unfold kept
  rw [show min k (r + 1) = r + 1 by omega, show min (k + 1) (r + 1) = r + 1 by omega, List.range'_succ, List.map_cons, List.tail_cons]
  refine ⟨rfl, ?_, ?_⟩
  · rw [show k + 1 - (r + 1) + 1 = k - (r + 1) + 1 + 1 by omega, List.range'_concat, List.map_append]
    simp
    omega
  · intro hm
    obtain ⟨x, hx, he⟩ := List.mem_map.1 hm
    rw [List.mem_range'_1] at hx
    omega
theorem kept_len {room k : Nat} : (kept room k).length = min k room := by simp [kept]

structure Ev (room n k : Nat) (s : Mgr) : Prop where
  cache : s.cache = ⟨room, kept room k, (kept room k).map fun x => (x, bodyE)⟩
  fns : s.fns = pairM.take 1 ++ (List.range n).flatMap fun _ => pairM.drop 1
  pub : s.pub = []
  picks : s.picks = (List.range (n - k)).map fun _ => 1
  guards : s.guards = []
  events : goneR s.events 0 = some (k - room)
theorem goneR_app : ∀ {es fs : List (Int × Int)} {g h : Nat}, goneR es g = some h → goneR (es ++ fs) g = goneR fs h
  | [], fs, g, h, e => by simp only [goneR, Option.some.injEq] at e; subst e; rfl
  | x :: es, fs, g, h, e => by
    simp only [goneR, List.cons_append] at e ⊢
    split at e
    · rename_i h4
      split at e
      · rename_i h5
        rw [if_pos h4, if_pos h5]; exact goneR_app e
      · simp at e
    · rename_i h4
      rw [if_neg h4]; exact goneR_app e
theorem fnsE_len (n : Nat) : (pairM.take 1 ++ (List.range n).flatMap fun _ => pairM.drop 1).length = n + 1 := by
  rw [List.length_append, List.length_flatMap]
  have : (List.map (fun _ : Nat => (List.drop 1 pairM).length) (List.range n)).sum = n := by
    induction n with
    | zero => rfl
    | succ n ih => rw [List.range_succ, List.map_append, List.sum_append, ih]; rfl
  rw [this]
  show 1 + n = n + 1
  omega
theorem fnsE_at {n k : Nat} (h : k < n) : (pairM.take 1 ++ (List.range n).flatMap fun _ => pairM.drop 1)[k + 1]? = some ⟨⟨#[102]⟩, 1, 1, 0, [⟨2, 0, 0⟩, ⟨1, 0, 3⟩, ⟨8, 0, 0⟩, ⟨18, 0, 0⟩]⟩ := by
  rw [List.getElem?_append_right (by show 1 ≤ k + 1; omega)]
  show ((List.range n).flatMap fun _ => pairM.drop 1)[k + 1 - 1]? = _
  rw [Nat.add_sub_cancel]
  have key : ∀ n, ((List.range n).flatMap fun _ => pairM.drop 1) = List.replicate n ⟨⟨#[102]⟩, 1, 1, 0, [⟨2, 0, 0⟩, ⟨1, 0, 3⟩, ⟨8, 0, 0⟩, ⟨18, 0, 0⟩]⟩ := by
    intro n
    induction n with
    | zero => rfl
    | succ n ih => rw [List.range_succ, List.flatMap_append, ih, List.replicate_succ']; rfl
  rw [key, List.getElem?_replicate, if_pos h]
theorem Ev.new {room n : Nat} (h1 : 1 ≤ room) (h2 : room ≤ 8) : Ev room n 0 (evictNew room n) := by
  refine ⟨?_, rfl, rfl, rfl, rfl, ?_⟩
  · show (⟨min (max (room : Int) 1) 32, [], []⟩ : Cache) = _
    have : min (max (room : Int) 1) 32 = room := by omega
    rw [this]
    have : kept room 0 = [] := by unfold kept; simp
    rw [this]; rfl
  · show some 0 = some (0 - room)
    simp
/-- A call ahead of the pick. -/
theorem evict_see {room n k i : Nat} {s : Mgr} (h : Ev room n k s) (hi : i < n) : enterM s ((i : Int) + 1) [3] =
    endM (midM (seeM s (i + 1) [3]) (i + 1) (s.picks.headD 0)).2 ((i + 1 : Nat) : Int) [0] (midM (seeM s (i + 1) [3]) (i + 1) (s.picks.headD 0)).1 := by
  have hf : s.fns[i + 1]? = some ⟨⟨#[102]⟩, 1, 1, 0, [⟨2, 0, 0⟩, ⟨1, 0, 3⟩, ⟨8, 0, 0⟩, ⟨18, 0, 0⟩]⟩ := by rw [h.fns]; exact fnsE_at hi
  have hl : s.fns.length = n + 1 := by rw [h.fns, fnsE_len]
  have hs : seenM s (i + 1) [3] = [0] := by
    unfold seenM paramsM openM
    rw [hf, h.pub]
    rfl
  unfold enterM
  rw [if_neg (by simp only [Bool.or_eq_true, decide_eq_true_eq]; omega), show ((i : Int) + 1).toNat = i + 1 by omega, hs]
theorem evict_first {room n k : Nat} {s : Mgr} (h0 : 1 ≤ room) (h : Ev room n k s) (hk : k < n) : (enterM s ((k : Int) + 1) [3]).1.2 = (true, 8) ∧ Ev room n (k + 1) (enterM s ((k : Int) + 1) [3]).2 := by
  rw [evict_see h hk]
  have hf : s.fns[k + 1]? = some ⟨⟨#[102]⟩, 1, 1, 0, [⟨2, 0, 0⟩, ⟨1, 0, 3⟩, ⟨8, 0, 0⟩, ⟨18, 0, 0⟩]⟩ := by rw [h.fns]; exact fnsE_at hk
  have hpk : s.picks.headD 0 = 1 := by
    rw [h.picks]
    obtain ⟨d, hd⟩ : ∃ d, n - k = d + 1 := ⟨n - k - 1, by omega⟩
    rw [hd, List.range_succ_eq_map]; rfl
  have hpt : s.picks.tail = (List.range (n - (k + 1))).map fun _ => 1 := by
    rw [h.picks]
    obtain ⟨d, hd⟩ : ∃ d, n - k = d + 1 := ⟨n - k - 1, by omega⟩
    rw [hd, show n - (k + 1) = d by omega, List.range_succ_eq_map]
    simp [List.map_map, Function.comp_def]
  rw [hpk]
  obtain ⟨cache, fns, pub, picks, prof, guards, events⟩ := s
  obtain ⟨e1, e2, e3, e4, e5, e6⟩ := h
  simp only at e1 e2 e3 e4 e5 e6 hf hpt
  subst e1; subst e3; subst e5
  have hnot : ((k + 1 : Nat) : Int) ∉ kept room k := by rw [kept_mem]; omega
  have hhas : Cache.has ⟨room, kept room k, (kept room k).map fun x => (x, bodyE)⟩ ((k + 1 : Nat) : Int) = false := by
    unfold Cache.has
    rw [aget_all, if_neg hnot]; rfl
  have hlen : lenM ⟨⟨room, kept room k, (kept room k).map fun x => (x, bodyE)⟩, fns, [], picks.tail, seeP prof (k + 1) [0], [], events⟩ (k + 1) = 4 := by
    unfold lenM; simp only; rw [hf]; rfl
  have hsee : seeM ⟨⟨room, kept room k, (kept room k).map fun x => (x, bodyE)⟩, fns, [], picks, prof, [], events⟩ (k + 1) [3] = ⟨⟨room, kept room k, (kept room k).map fun x => (x, bodyE)⟩, fns, [], picks.tail, seeP prof (k + 1) [0], [], events⟩ := by
    unfold seeM
    have : seenM ⟨⟨room, kept room k, (kept room k).map fun x => (x, bodyE)⟩, fns, [], picks, prof, [], events⟩ (k + 1) [3] = [0] := by
      unfold seenM paramsM openM
      simp only
      rw [hf]
      rfl
    rw [this]
  rw [hsee]
  have hbody : bodyM ⟨⟨room, kept room k, (kept room k).map fun x => (x, bodyE)⟩, fns, [], picks.tail, seeP prof (k + 1) [0], [], events⟩ (k + 1) 1 = (bodyE, ⟨⟨room, kept room k, (kept room k).map fun x => (x, bodyE)⟩, fns, [], picks.tail, seeP prof (k + 1) [0], [], events⟩) := by
    unfold bodyM
    simp only
    rw [hf]
    rfl
  -- what is kept, and what goes
  have hput : ∀ (ev : List (Int × Int)), ∃ evs, putM ⟨⟨room, kept room k, (kept room k).map fun x => (x, bodyE)⟩, fns, [], picks.tail, seeP prof (k + 1) [0], [], ev⟩ ((k + 1 : Nat) : Int) bodyE =
      ⟨⟨room, kept room (k + 1), (kept room (k + 1)).map fun x => (x, bodyE)⟩, fns, [], picks.tail, seeP prof (k + 1) [0], [], ev ++ evs⟩ ∧ ∀ g, g = k - room → goneR evs g = some (k + 1 - room) := by
    intro ev
    by_cases hr : k < room
    · have hfull : Cache.full ⟨room, kept room k, (kept room k).map fun x => (x, bodyE)⟩ ((k + 1 : Nat) : Int) = false := by
        unfold Cache.full
        rw [hhas]
        simp only [kept_len, Bool.not_false, Bool.true_and, beq_eq_false_iff_ne]
        omega
      have hp : Cache.put ⟨room, kept room k, (kept room k).map fun x => (x, bodyE)⟩ ((k + 1 : Nat) : Int) bodyE = ((0, false), ⟨room, kept room (k + 1), (kept room (k + 1)).map fun x => (x, bodyE)⟩) := by
        unfold Cache.put Cache.room Cache.drop
        rw [hfull, hhas]
        simp only [Bool.false_eq_true, if_false]
        rw [aset_all hnot, kept_next hr]
      unfold putM
      rw [hp]
      exact ⟨[], by simp, fun g hg => by subst hg; simp only [goneR, Option.some.injEq]; omega⟩
    · obtain ⟨hk1, hk2, hk3⟩ := kept_full h0 (show room ≤ k by omega)
      generalize (kept room k).tail = T at *
      have hmem : ((k + 1 : Nat) : Int) ∉ T := fun hm => hnot (by rw [hk1]; exact List.mem_cons_of_mem _ hm)
      have hkl := kept_len (room := room) (k := k)
      rw [hk1] at hhas hkl ⊢
      have hfull : Cache.full ⟨room, ((k - room + 1 : Nat) : Int) :: T, (((k - room + 1 : Nat) : Int) :: T).map fun x => (x, bodyE)⟩ ((k + 1 : Nat) : Int) = true := by
        unfold Cache.full
        rw [hhas]
        simp only [hkl, Bool.not_false, Bool.true_and, beq_iff_eq]
        omega
      have hh2 : Cache.has ⟨room, ((k - room + 1 : Nat) : Int) :: T, (((k - room + 1 : Nat) : Int) :: T).map fun x => (x, bodyE)⟩ ((k - room + 1 : Nat) : Int) = true := by
        unfold Cache.has
        rw [aget_all, if_pos (by simp)]; rfl
      have hp : Cache.put ⟨room, ((k - room + 1 : Nat) : Int) :: T, (((k - room + 1 : Nat) : Int) :: T).map fun x => (x, bodyE)⟩ ((k + 1 : Nat) : Int) bodyE = ((((k - room + 1 : Nat) : Int), true), ⟨room, kept room (k + 1), (kept room (k + 1)).map fun x => (x, bodyE)⟩) := by
        unfold Cache.put Cache.room
        rw [hfull]
        simp only [if_true, List.headD_cons]
        rw [hh2]
        unfold Cache.drop
        rw [hh2]
        simp only [if_true, List.map_cons, adel, List.filter_cons, bne_self_eq_false, Bool.false_eq_true, if_false]
        have hfil : T.filter (fun x => x != ((k - room + 1 : Nat) : Int)) = T := by
          rw [List.filter_eq_self]
          intro x hx
          simp only [bne_iff_ne, ne_eq]
          rintro rfl
          exact hk3 hx
        rw [hfil, aset_all hmem, hk2]
      unfold putM
      rw [hp]
      refine ⟨[(4, ((k - room + 1 : Nat) : Int))], by simp [goneM, noteM, adel], fun g hg => ?_⟩
      subst hg
      simp only [goneR, beq_self_eq_true, if_true]
      rw [show k - room + 1 = k + 1 - room by omega]
  have hmid : ∃ evs, midM ⟨⟨room, kept room k, (kept room k).map fun x => (x, bodyE)⟩, fns, [], picks.tail, seeP prof (k + 1) [0], [], events⟩ (k + 1) 1 = (8, ⟨⟨room, kept room (k + 1), (kept room (k + 1)).map fun x => (x, bodyE)⟩, fns, [], picks.tail, seeP prof (k + 1) [0], [], events ++ [(1, ((k + 1 : Nat) : Int))] ++ evs⟩) ∧
      ∀ g, g = k - room → goneR evs g = some (k + 1 - room) := by
    unfold midM
    rw [hlen]
    have c1 : (((1 : Int) == 1 || (1 : Int) == 2) && !Cache.has ⟨room, kept room k, (kept room k).map fun x => (x, bodyE)⟩ ((k + 1 : Nat) : Int)) = true := by rw [hhas]; rfl
    simp only
    rw [if_pos c1]
    unfold compilesM
    rw [hbody]
    obtain ⟨evs, h1, h2⟩ := hput (events ++ [(1, ((k + 1 : Nat) : Int))])
    refine ⟨evs, ?_, h2⟩
    simp only [noteM]
    rw [h1]
    rfl
  obtain ⟨evs, hmid, hev⟩ := hmid
  rw [hmid]
  have hhas2 : Cache.has ⟨room, kept room (k + 1), (kept room (k + 1)).map fun x => (x, bodyE)⟩ ((k + 1 : Nat) : Int) = true := by
    unfold Cache.has
    rw [aget_all, if_pos (by rw [kept_mem]; omega)]; rfl
  unfold endM guardBad
  simp only [aget]
  rw [if_pos hhas2]
  refine ⟨rfl, ⟨rfl, e2, rfl, hpt, rfl, ?_⟩⟩
  simp only [noteM, Bool.false_eq_true, if_false]
  have h5 := goneR_app (fs := [(1, ((k + 1 : Nat) : Int))]) e6
  have h6 : goneR (events ++ [(1, ((k + 1 : Nat) : Int))]) 0 = some (k - room) := by rw [h5]; rfl
  have h7 := goneR_app (fs := evs) h6
  rw [hev _ rfl] at h7
  have h8 := goneR_app (fs := [(2, ((k + 1 : Nat) : Int))]) h7
  rw [h8]; rfl
theorem evict_second {room n i : Nat} {s : Mgr} (h : Ev room n n s) (hi : i < n) : (enterM s ((i : Int) + 1) [3]).1.2 = (decide (n < i + 1 + room), 0) ∧ Ev room n n (enterM s ((i : Int) + 1) [3]).2 := by
  rw [evict_see h hi]
  have hpk : s.picks.headD 0 = 0 := by rw [h.picks]; simp
  have hpt : s.picks.tail = (List.range (n - n)).map fun _ => 1 := by rw [h.picks]; simp
  rw [hpk]
  have hmid : midM (seeM s (i + 1) [3]) (i + 1) 0 = (0, seeM s (i + 1) [3]) := rfl
  rw [hmid]
  have hsc : (seeM s (i + 1) [3]).cache = s.cache := rfl
  have hsg : (seeM s (i + 1) [3]).guards = s.guards := rfl
  have hse : (seeM s (i + 1) [3]).events = s.events := rfl
  have hsf : (seeM s (i + 1) [3]).fns = s.fns := rfl
  have hsp : (seeM s (i + 1) [3]).pub = s.pub := rfl
  have hsk : (seeM s (i + 1) [3]).picks = s.picks.tail := rfl
  generalize seeM s (i + 1) [3] = s2 at *
  have hm := kept_mem (room := room) (k := n) (j := i + 1)
  unfold endM guardBad
  rw [hsc, hsg, h.guards, h.cache]
  have hh : Cache.has ⟨room, kept room n, (kept room n).map fun x => (x, bodyE)⟩ ((i + 1 : Nat) : Int) = decide (n < i + 1 + room) := by
    unfold Cache.has
    rw [aget_all]
    by_cases hin : ((i + 1 : Nat) : Int) ∈ kept room n
    · rw [if_pos hin]; rw [hm] at hin
      simp only [Option.isSome_some]
      symm
      rw [decide_eq_true_eq]
      omega
    · rw [if_neg hin]; rw [hm] at hin
      simp only [Option.isSome_none]
      symm
      rw [decide_eq_false_iff_not]
      omega
  simp only [aget, hh]
  cases hd : decide (n < i + 1 + room)
  · simp only [Bool.false_eq_true, if_false]
    exact ⟨trivial, ⟨hsc.trans h.cache, hsf.trans h.fns, hsp.trans h.pub, hsk.trans hpt, hsg.trans h.guards, by rw [hse]; exact h.events⟩⟩
  · simp only [if_true, Bool.false_eq_true, if_false]
    refine ⟨trivial, ⟨hsc.trans h.cache, hsf.trans h.fns, hsp.trans h.pub, hsk.trans hpt, hsg.trans h.guards, ?_⟩⟩
    show goneR (s2.events ++ [(2, ((i + 1 : Nat) : Int))]) 0 = some (n - room)
    rw [hse]
    have := goneR_app (fs := [(2, ((i + 1 : Nat) : Int))]) h.events
    rw [this]; rfl
end Go.Proofs.YtkonigmefmgepaaGreatDoor.M
