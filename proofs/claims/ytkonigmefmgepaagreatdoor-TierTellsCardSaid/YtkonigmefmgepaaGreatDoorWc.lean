/- Contracts: the cache (own work). -/
import Derived.Test.YtkonigmefmgepaaGreatDoorWb
namespace Go.Proofs.YtkonigmefmgepaaGreatDoor
open Go.RowKit
set_option linter.unusedVariables false
set_option linter.unusedSimpArgs false

abbrev GB := Int × (List M.Ins × Value × Nat)
def gEnt (e : GB) : Ent := (e.1, e.2.2.1, e.2.2.2)
def gMod (e : GB) : Int × List M.Ins := (e.1, e.2.1)
def gRow (e : GB) : As := row 69 3 e.2.2.1 e.2.1.length (insC e.2.1)
def gset (k : Int) (L : List M.Ins) (v : Value) (c : Nat) : List GB → List GB
  | [] => [(k, L, v, c)]
  | e :: es => if k = e.1 then (k, L, v, e.2.2.2) :: es else e :: gset k L v c es
theorem gmget (k : Int) : ∀ gs : List GB, mget k (gs.map gEnt) = (M.aget k gs).map (·.2.1)
  | [] => rfl
  | e :: es => by
    simp only [List.map_cons, mget, M.aget, gEnt]
    split
    · rfl
    · exact gmget k es
theorem gaget (k : Int) : ∀ gs : List GB, M.aget k (gs.map gMod) = (M.aget k gs).map (·.1)
  | [] => rfl
  | e :: es => by
    simp only [List.map_cons, M.aget, gMod]
    split
    · rfl
    · exact gaget k es
theorem gmdel (k : Int) : ∀ gs : List GB, mdel k (gs.map gEnt) = (M.adel k gs).map gEnt
  | [] => rfl
  | e :: es => by
    simp only [List.map_cons, mdel, M.adel, gEnt]
    split
    · rfl
    · rw [gmdel k es]; rfl
theorem gadel (k : Int) : ∀ gs : List GB, M.adel k (gs.map gMod) = (M.adel k gs).map gMod
  | [] => rfl
  | e :: es => by
    simp only [List.map_cons, M.adel, gMod]
    split
    · rfl
    · rw [gadel k es]; rfl
theorem gmset (k : Int) (L : List M.Ins) (v : Value) (c : Nat) : ∀ gs : List GB, mset k v c (gs.map gEnt) = (gset k L v c gs).map gEnt
  | [] => rfl
  | e :: es => by
    simp only [List.map_cons, mset, gset, gEnt]
    split
    · rfl
    · rw [gmset k L v c es]; rfl
theorem gaset (k : Int) (L : List M.Ins) (v : Value) (c : Nat) : ∀ gs : List GB, M.aset k L (gs.map gMod) = (gset k L v c gs).map gMod
  | [] => rfl
  | e :: es => by
    simp only [List.map_cons, M.aset, gset, gMod]
    split
    · rfl
    · rw [gaset k L v c es]; rfl
theorem sat_adel (k : Int) : ∀ (gs : List GB) (F : Nat → Prop) (w : World), Sat (gs.map gRow) F w → Sat ((M.adel k gs).map gRow) F w
  | [], F, w, h => h
  | e :: es, F, w, ⟨F1, F2, h1, h2, h3, h4, h5⟩ => by
    simp only [M.adel]
    split
    · exact h5.mono h2
    · exact ⟨F1, F2, h1, h2, h3, h4, sat_adel k es F2 w h5⟩
theorem sat_gset (k : Int) (L : List M.Ins) (v : Value) (c : Nat) : ∀ (gs : List GB) (F : Nat → Prop) (w : World), Sat (row 69 3 v L.length (insC L) :: gs.map gRow) F w → Sat ((gset k L v c gs).map gRow) F w
  | [], F, w, h => h
  | e :: es, F, w, ⟨F1, F2, h1, h2, h3, h4, G1, G2, g1, g2, g3, g4, g5⟩ => by
    simp only [gset]
    split
    · exact ⟨F1, G2, h1, fun b hb => h2 b (g2 b hb), fun b hb hq => h3 b hb (g2 b hq), h4, g5⟩
    · refine ⟨G1, fun b => F1 b ∨ G2 b, fun b hb => h2 b (g1 b hb), fun b hb => hb.elim (h1 b) fun hb => h2 b (g2 b hb), fun b hb hq => hq.elim (fun hq => h3 b hq (g1 b hb)) (g3 b hb), g4, ?_⟩
      exact sat_gset k L v c es _ w ⟨F1, G2, fun b hb => .inl hb, fun b hb => .inr hb, fun b hb hq => h3 b hb (g2 b hq), h4, g5⟩

structure CG where
  ov : Value
  mb : Nat
  clk : Nat
  gs : List GB
def cachePs (cb : Nat) (s : M.Cache) (g : CG) : List As :=
  [pt cb 107 [IV s.cap, g.ov, .map (some g.mb)], row 3 1 g.ov s.order.length (numC s.order), mp g.mb ((g.gs.map gEnt).map ent) g.clk, big (g.gs.map gRow), pur (g.gs.map gMod = s.bodies)]
def cacheA (cb : Nat) (s : M.Cache) : As := obj (cachePs cb s)

section
variable {W0 : World} {l : List As} {K : Value → C} {pn : Pn}

theorem cacheNew_c {n : Int} (h : ∀ cb, Run W0 (cacheA cb ⟨min (max n 1) 32, [], []⟩ :: l) (K (Ptr cb))) : Run W0 l (callS P 15 #[IV n] K pn) := by
  refine r15 ?_
  unfold S15
  try simp only [pureE, pureT, Nat.zero_add, Nat.reduceAdd, Bool.not_false, Bool.not_true]
  refine run_makeMap fun mb => ?_
  refine run_nx (.agg #[IV (min (max n 1) 32), .slice none 0 0, .map (some mb)]) (fun w => by kernel_rfl) ?_
  refine run_box fun cb => ?_
  refine run_to (cachePs cb ⟨min (max n 1) 32, [], []⟩ ⟨.slice none 0 0, mb, 0, []⟩ ++ l) (fun w hw => ?_) (run_pack _ (h cb))
  have h1 : St W0 (row 3 1 (.slice none 0 0) 0 [] :: pt cb 107 [IV (min (max n 1) 32), .slice none 0 0, .map (some mb)] :: mp mb [] 0 :: l) w := hw.new ⟨rfl, rfl, rfl, Nat.le_refl _, fun _ _ _ => rfl⟩ (fun _ => False) (fun _ hx => hx.elim) ⟨by simp, .inl ⟨rfl, rfl, fun _ hx => hx⟩⟩
  have h2 : St W0 (pur (([] : List GB).map gMod = []) :: row 3 1 (.slice none 0 0) 0 [] :: pt cb 107 [IV (min (max n 1) 32), .slice none 0 0, .map (some mb)] :: mp mb [] 0 :: l) w := h1.new ⟨rfl, rfl, rfl, Nat.le_refl _, fun _ _ _ => rfl⟩ (fun _ => False) (fun _ hx => hx.elim) rfl
  have h3 : St W0 (big [] :: pur (([] : List GB).map gMod = []) :: row 3 1 (.slice none 0 0) 0 [] :: pt cb 107 [IV (min (max n 1) 32), .slice none 0 0, .map (some mb)] :: mp mb [] 0 :: l) w := h2.new ⟨rfl, rfl, rfl, Nat.le_refl _, fun _ _ _ => rfl⟩ (fun _ => False) (fun _ hx => hx.elim) trivial
  exact (((h3.front 4).front 3).front 4 : St W0 _ w)

theorem get_c {i cb : Nat} {s : M.Cache} {fn : Int} (hi : l[i]? = some (cacheA cb s)) (hb : ∀ e ∈ s.bodies, e.2.length ≤ 4294967296)
    (h : ∀ v', Run W0 (row 69 3 v' (s.get fn).length (insC (s.get fn)) :: l) (K (.tuple #[v', .bool (s.has fn)]))) : Run W0 l (callS P 21 #[Ptr cb, IV fn] K pn) := by
  refine r21 ?_
  unfold S21
  refine run_open i hi fun g => ?_
  refine run_pur 4 rfl fun hg => ?_
  try simp only [pureE, pureT, Nat.zero_add, Nat.reduceAdd, Bool.not_false, Bool.not_true]
  refine run_ld sc105 (cl1 (i := 0) rfl rfl) ?_
  refine run_lookup un105 un3 ty36 (i := 2) rfl ?_
  rw [if_pos rfl]
  try simp only [pureE, pureT, Nat.zero_add, Nat.reduceAdd, Bool.not_false, Bool.not_true]
  have hm := gmget fn g.gs
  have ha := gaget fn g.gs
  rw [hg] at ha
  unfold M.Cache.get M.Cache.has at h
  rw [ha] at h
  have fin : ∀ v' n L, Run W0 (row 69 3 v' n L :: l) (K (.tuple #[v', .bool ((M.aget fn g.gs).map (·.1)).isSome])) → Run W0 (row 69 3 v' n L :: (cachePs cb s g ++ l.eraseIdx i)) (K (.tuple #[v', .bool ((M.aget fn g.gs).map (·.2.1)).isSome])) := by
    intro v' n L h
    refine run_shut1 l i g hi ?_
    rw [show l.set i (obj (cachePs cb s)) = l from row_set_id i hi]
    cases hq : M.aget fn g.gs <;> (rw [hq] at h; exact h)
  rw [hm]
  cases hq : M.aget fn g.gs with
  | none =>
    refine cloneIns_c (n := 0) (xs := []) Rd.nil (by simp) (by omega) fun v' _ => ?_
    rw [hq] at h fin
    exact fin v' _ _ (h v')
  | some x =>
    obtain ⟨j, hj⟩ := M.aget_mem hq
    obtain ⟨L, v, c⟩ := x
    refine run_big_rd 3 j (ps := g.gs.map gRow) rfl (by rw [List.getElem?_map, hj]; rfl) fun hrd => ?_
    have hmem : (fn, L) ∈ s.bodies := by
      rw [← hg]
      exact List.mem_map.2 ⟨_, List.mem_of_getElem? hj, rfl⟩
    refine cloneIns_c (v := v) (n := L.length) (xs := insC L) hrd (flat_one insV_one _) (hb _ hmem) fun v' _ => ?_
    rw [hq] at h fin
    exact fin v' _ _ (h v')

theorem len_c {i cb : Nat} {s : M.Cache} (hi : l[i]? = some (cacheA cb s)) (h : Run W0 l (K (IV s.order.length))) : Run W0 l (callS P 55 #[Ptr cb] K pn) := by
  refine r55 ?_
  unfold S55
  refine run_open i hi fun g => ?_
  refine run_row_rd 1 rfl fun hrd => ?_
  obtain ⟨a, c, hv, _, _, _⟩ := hrd.form
  try simp only [pureE, pureT, Nat.zero_add, Nat.reduceAdd, Bool.not_false, Bool.not_true]
  refine run_ld sc71 (cl1 (i := 0) rfl rfl) ?_
  rw [hv]
  try simp only [pureE, pureT, Nat.zero_add, Nat.reduceAdd, Bool.not_false, Bool.not_true]
  refine run_shut l i g hi ?_
  rw [show l.set i (obj (cachePs cb s)) = l from row_set_id i hi]
  exact h

theorem drop_c {i cb : Nat} {s : M.Cache} {fn : Int} (hi : l[i]? = some (cacheA cb s)) (ho : s.order.length ≤ 4294967296)
    (h : Run W0 (l.set i (cacheA cb (s.drop fn))) (K (.bool (s.has fn)))) : Run W0 l (callS P 24 #[Ptr cb, IV fn] K pn) := by
  refine r24 ?_
  unfold S24
  refine run_open i hi fun g => ?_
  refine run_pur 4 rfl fun hg => ?_
  refine run_box fun b3 => ?_
  refine run_draw (pt b3 3 [IV fn] :: (cachePs cb s g ++ l.eraseIdx i)) (fun w hw => hw) ?_
  try simp only [pureE, pureT, Nat.zero_add, Nat.reduceAdd, Bool.not_false, Bool.not_true]
  refine take_ld sc105 (cl1 (i := 1) rfl rfl) ?_
  refine take_ld sc3 (cl1 (i := 0) rfl rfl) ?_
  refine take_lookup un105 un3 ty36 (i := 3) rfl ?_
  rw [if_pos rfl]
  try simp only [pureE, pureT, Nat.zero_add, Nat.reduceAdd, Bool.not_false, Bool.not_true]
  have hm := gmget fn g.gs
  have ha := gaget fn g.gs
  rw [hg] at ha
  have hhas : s.has fn = (M.aget fn g.gs).isSome := by unfold M.Cache.has; rw [ha]; cases M.aget fn g.gs <;> rfl
  have hhas2 : (mget fn (g.gs.map gEnt)).isSome = s.has fn := by rw [hm, hhas]; cases M.aget fn g.gs <;> rfl
  rw [hhas2]
  cases hq : s.has fn
  · try simp only [pureE, pureT, Nat.zero_add, Nat.reduceAdd, Bool.not_false, Bool.not_true]
    refine run_drop ?_
    refine run_shut l i g hi ?_
    have e : s.drop fn = s := by unfold M.Cache.drop; rw [hq]; rfl
    rw [e, hq] at h
    exact h
  · try simp only [pureE, pureT, Nat.zero_add, Nat.reduceAdd, Bool.not_false, Bool.not_true]
    refine run_draw [pt b3 3 [IV fn], pt cb 107 [IV s.cap, g.ov, .map (some g.mb)]] (fun w hw => ?_) ?_
    · have : St W0 ([pt b3 3 [IV fn], pt cb 107 [IV s.cap, g.ov, .map (some g.mb)]] ++ ((cachePs cb s g).tail ++ l.eraseIdx i)) w := hw
      exact this.drop1
    refine take_ld sc105 (cl1 (i := 1) rfl rfl) ?_
    refine take_ld sc3 (cl1 (i := 0) rfl rfl) ?_
    refine run_delete un105 un3 (i := 3) rfl ?_
    refine run_and (fun w hw => ?_) ?_
    · have : St W0 ([pt b3 3 [IV fn], pt cb 107 [IV s.cap, g.ov, .map (some g.mb)]] ++ (row 3 1 g.ov s.order.length (numC s.order) :: mp g.mb ((mdel fn (g.gs.map gEnt)).map ent) g.clk :: big (g.gs.map gRow) :: pur (g.gs.map gMod = s.bodies) :: l.eraseIdx i)) w := hw
      exact this.drop1
    try simp only [pureE, pureT, Nat.zero_add, Nat.reduceAdd, Bool.not_false, Bool.not_true]
    refine run_ld sc71 (cl1 (i := 1) rfl rfl) ?_
    refine deleteN_c (i := 0) (j := 2) rfl rfl (by omega) ho fun ov' => ?_
    refine run_row_rd 2 rfl fun hrd => ?_
    obtain ⟨a2, c2, hv2, _, _, _⟩ := hrd.form
    subst hv2
    refine run_st ty71 (i := 1) rfl rfl (by simp [Value.cells, Value.oneCell']) (by simp) ?_
    refine run_bigW 4 rfl (sat_adel fn g.gs) ?_
    refine run_setPur 5 ((M.adel fn g.gs).map gMod = (s.drop fn).bodies) rfl ?_ ?_
    · unfold M.Cache.drop; rw [hq, if_pos rfl]; simp only; rw [← hg, gadel]
    refine run_drop ?_
    rw [hq] at h
    refine run_to (cachePs cb (s.drop fn) ⟨.slice a2 (s.order.filter (· != fn)).length c2, g.mb, g.clk, M.adel fn g.gs⟩ ++ l.eraseIdx i) (fun w hw => ?_) (run_shut l i _ hi h)
    have e1 : (s.drop fn).cap = s.cap := by unfold M.Cache.drop; rw [hq]; rfl
    have e2 : (s.drop fn).order = s.order.filter (· != fn) := by unfold M.Cache.drop; rw [hq]; rfl
    unfold cachePs
    rw [e1, e2, ← gmdel]
    exact hw

theorem drop_order (s : M.Cache) (fn : Int) : (s.drop fn).order.length ≤ s.order.length := by
  unfold M.Cache.drop
  split
  · exact List.length_filter_le _ _
  · exact Nat.le_refl _
theorem drop_cap (s : M.Cache) (fn : Int) : (s.drop fn).cap = s.cap := by
  unfold M.Cache.drop
  split <;> rfl

theorem put_k {i cb n : Nat} {s : M.Cache} {fn : Int} {bv : Value} {L : List M.Ins} {r1 r2 : Value} (hi : l[i]? = some (cacheA cb s)) (ho : s.order.length ≤ 4294967295) (hr : Rd W0 (l.eraseIdx i) 3 bv n (insC L)) (hn : n ≤ 4294967296)
    (h : Run W0 (l.set i (cacheA cb { s with order := s.order ++ [fn], bodies := M.aset fn L s.bodies })) (K (.tuple #[r1, r2]))) : Run W0 l (S40_k1 K pn (Ptr cb) (IV fn) bv r1 r2) := by
  unfold S40_k1
  have hl : L.length = n := rd_len insV_len (by omega) hr
  refine run_open i hi fun g => ?_
  refine run_pur 4 rfl fun hg => ?_
  try simp only [pureE, pureT, Nat.zero_add, Nat.reduceAdd, Bool.not_false, Bool.not_true]
  refine run_ld sc71 (cl1 (i := 0) rfl rfl) ?_
  refine run_buildSlice (numV fn) un71 ty3 (by omega) (by omega) (by kernel_rfl) fun b3 => ?_
  refine run_append 2 un71 ty3 rfl rfl (Rd.pt (i := 0) rfl 1 (by simp)) (numV_one fn) (by unfold maxLen; omega) (by omega) (by omega) fun ov' _ => ?_
  refine run_drop ?_
  refine run_row_rd 1 rfl fun hrd => ?_
  obtain ⟨a2, c2, hv2, _, _, _⟩ := hrd.form
  subst hv2
  try simp only [pureE, pureT, Nat.zero_add, Nat.reduceAdd, Bool.not_false, Bool.not_true]
  refine run_st ty71 (i := 0) rfl rfl (by simp [Value.cells, Value.oneCell']) (by simp) ?_
  refine run_to (pt cb 107 [IV s.cap, .slice a2 (s.order.length + 1) c2, .map (some g.mb)] :: row 3 1 (.slice a2 (s.order.length + 1) c2) (s.order.length + 1) (numC s.order ++ numV fn) :: mp g.mb ((g.gs.map gEnt).map ent) g.clk :: big (g.gs.map gRow) :: pur (g.gs.map gMod = s.bodies) :: l.eraseIdx i) (fun w hw => hw) ?_
  refine run_draw [pt cb 107 [IV s.cap, .slice a2 (s.order.length + 1) c2, .map (some g.mb)]] (fun w hw => hw.head) ?_
  try simp only [pureE, pureT, Nat.zero_add, Nat.reduceAdd, Bool.not_false, Bool.not_true]
  refine take_ld sc105 (cl1 (i := 0) rfl rfl) ?_
  refine cloneIns_c (hr.mono fun _ hw => hw.tail.tail.tail.tail.tail) (flat_one insV_one _) hn fun v' _ => ?_
  refine run_and (fun w hw => hw.tail.head) ?_
  refine run_mapUpdate un105 un3 (i := 3) rfl fun clk' => ?_
  refine run_and (fun w hw => hw.tail.head) ?_
  refine run_to (big (row 69 3 v' L.length (insC L) :: g.gs.map gRow) :: pt cb 107 [IV s.cap, .slice a2 (s.order.length + 1) c2, .map (some g.mb)] :: row 3 1 (.slice a2 (s.order.length + 1) c2) (s.order.length + 1) (numC s.order ++ numV fn) :: mp g.mb ((mset fn v' g.clk (g.gs.map gEnt)).map ent) clk' :: pur (g.gs.map gMod = s.bodies) :: l.eraseIdx i) (fun w hw => ?_) ?_
  · rw [hl]
    have h1 : St W0 (row 69 3 v' n (insC L) :: pt cb 107 [IV s.cap, .slice a2 (s.order.length + 1) c2, .map (some g.mb)] :: row 3 1 (.slice a2 (s.order.length + 1) c2) (s.order.length + 1) (numC s.order ++ numV fn) :: mp g.mb ((mset fn v' g.clk (g.gs.map gEnt)).map ent) clk' :: big (g.gs.map gRow) :: pur (g.gs.map gMod = s.bodies) :: l.eraseIdx i) w := hw
    have h2 := (h1.front 4).openB (i := 0) rfl
    have h3 : St W0 (g.gs.map gRow ++ (row 69 3 v' n (insC L) :: pt cb 107 [IV s.cap, .slice a2 (s.order.length + 1) c2, .map (some g.mb)] :: row 3 1 (.slice a2 (s.order.length + 1) c2) (s.order.length + 1) (numC s.order ++ numV fn) :: mp g.mb ((mset fn v' g.clk (g.gs.map gEnt)).map ent) clk' :: pur (g.gs.map gMod = s.bodies) :: l.eraseIdx i)) w := h2
    have h4 := h3.pack (A' := big (g.gs.map gRow)) fun F hs => hs
    have h5 : St W0 (row 69 3 v' n (insC L) :: big (g.gs.map gRow) :: pt cb 107 [IV s.cap, .slice a2 (s.order.length + 1) c2, .map (some g.mb)] :: row 3 1 (.slice a2 (s.order.length + 1) c2) (s.order.length + 1) (numC s.order ++ numV fn) :: mp g.mb ((mset fn v' g.clk (g.gs.map gEnt)).map ent) clk' :: pur (g.gs.map gMod = s.bodies) :: l.eraseIdx i) w := h4.front 1
    obtain ⟨F, hF, F1, F2, g1, g2, g3, g4, G1, G2, k1, k2, k3, k4, k5⟩ := h5.sat
    exact ⟨h5.below, F, hF, fun b => F1 b ∨ G1 b, G2, fun b hb => hb.elim (g1 b) fun hb => g2 b (k1 b hb), fun b hb => g2 b (k2 b hb), fun b hb hq => hb.elim (fun hb => g3 b hb (k2 b hq)) fun hb => k3 b hb hq,
      ⟨F1, G1, fun b hb => .inl hb, fun b hb => .inr hb, fun b hb hq => g3 b hb (k1 b hq), g4, k4⟩, k5⟩
  refine run_bigW 0 rfl (sat_gset fn L v' g.clk g.gs) ?_
  refine run_setPur 4 ((gset fn L v' g.clk g.gs).map gMod = M.aset fn L s.bodies) rfl (by rw [← hg, gaset]) ?_
  refine run_to (cachePs cb { s with order := s.order ++ [fn], bodies := M.aset fn L s.bodies } ⟨.slice a2 (s.order.length + 1) c2, g.mb, clk', gset fn L v' g.clk g.gs⟩ ++ l.eraseIdx i) (fun w hw => ?_) (run_shut l i _ hi h)
  unfold cachePs
  simp only [List.length_append, List.length_singleton, numC, List.flatMap_append, List.flatMap_cons, List.flatMap_nil, List.append_nil]
  rw [← gmset]
  have h1 : St W0 (big ((gset fn L v' g.clk g.gs).map gRow) :: pt cb 107 [IV s.cap, .slice a2 (s.order.length + 1) c2, .map (some g.mb)] :: row 3 1 (.slice a2 (s.order.length + 1) c2) (s.order.length + 1) (numC s.order ++ numV fn) :: mp g.mb ((mset fn v' g.clk (g.gs.map gEnt)).map ent) clk' :: pur ((gset fn L v' g.clk g.gs).map gMod = M.aset fn L s.bodies) :: l.eraseIdx i) w := hw
  exact (((h1.front 3).front 3).front 3 : St W0 _ w)

theorem put_c {i cb n : Nat} {s : M.Cache} {fn : Int} {bv : Value} {L : List M.Ins} (hi : l[i]? = some (cacheA cb s)) (ho : s.order.length ≤ 4294967295) (hcap : 1 ≤ s.cap) (hr : Rd W0 (l.eraseIdx i) 3 bv n (insC L)) (hn : n ≤ 4294967296)
    (h : Run W0 (l.set i (cacheA cb (s.put fn L).2)) (K (.tuple #[IV (s.put fn L).1.1, .bool (s.put fn L).1.2]))) : Run W0 l (callS P 40 #[Ptr cb, IV fn, bv] K pn) := by
  refine r40 ?_
  unfold S40
  let S0 : List As := [aex fun v : Value × Value => pt cb 107 [IV s.cap, v.1, v.2]]
  have toS0 : ∀ (s' : M.Cache), s'.cap = s.cap → ∀ {l' : List As} {j : Nat}, l'[j]? = some (cacheA cb s') → ∀ w, St W0 l' w → St W0 S0 w := by
    intro s' hc l' j hj w hw
    obtain ⟨g, hg⟩ := hw.open_ hj
    have h1 : St W0 (pt cb 107 [IV s'.cap, g.ov, .map (some g.mb)] :: ((cachePs cb s' g).tail ++ l'.eraseIdx j)) w := hg
    rw [hc] at h1
    exact (St.toAex (B := fun v : Value × Value => pt cb 107 [IV s.cap, v.1, v.2]) (x := (g.ov, .map (some g.mb))) h1.head)
  refine run_draw S0 (toS0 s rfl hi) ?_
  refine drop_c hi (by omega) ?_
  have hi2 : (l.set i (cacheA cb (s.drop fn)))[i]? = some (cacheA cb (s.drop fn)) := set_get hi
  refine run_and (toS0 _ (drop_cap s fn) hi2) ?_
  try simp only [pureE, pureT, Nat.zero_add, Nat.reduceAdd, Bool.not_false, Bool.not_true]
  unfold M.Cache.put M.Cache.room M.Cache.full at h
  have ho2 := drop_order s fn
  cases hh : s.has fn
  · rw [hh] at h
    have hd : s.drop fn = s := by unfold M.Cache.drop; rw [hh]; rfl
    rw [hd] at hi2 ⊢
    rw [row_set_id i hi] at hi2 ⊢
    try simp only [pureE, pureT, Nat.zero_add, Nat.reduceAdd, Bool.not_false, Bool.not_true]
    refine take_ld sc3 (Cls.aexPt (f := fun v : Value × Value => [IV s.cap, v.1, v.2]) (o := 0) fun x => rfl) ?_
    refine len_c hi ?_
    refine run_and (toS0 s rfl hi) ?_
    try simp only [pureE, pureT, Nat.zero_add, Nat.reduceAdd, Bool.not_false, Bool.not_true]
    cases hf : (s.order.length : Int) == s.cap
    · rw [hf, hd] at h
      try simp only [pureE, pureT, Nat.zero_add, Nat.reduceAdd, Bool.not_false, Bool.not_true]
      exact put_k hi ho hr hn h
    · rw [hf] at h
      try simp only [pureE, pureT, Nat.zero_add, Nat.reduceAdd, Bool.not_false, Bool.not_true]
      have hlen : (s.order.length : Int) = s.cap := by simpa using hf
      refine run_open i hi fun g => ?_
      refine run_ld sc71 (cl1 (i := 0) rfl rfl) ?_
      refine run_row_rd 1 rfl fun hrd => ?_
      obtain ⟨x, hx⟩ : ∃ x, s.order[0]? = some x := ⟨_, List.getElem?_eq_getElem (by omega)⟩
      have hhd : s.order.headD 0 = x := by
        cases ho' : s.order with
        | nil => rw [ho'] at hx; simp at hx
        | cons y ys => rw [ho'] at hx; simpa using hx
      refine run_rd_idx un71 ty3 numV_len (by omega) hrd 0 hx fun b o hc => ?_
      refine run_ld sc3 hc ?_
      refine run_shut l i g hi ?_
      rw [show l.set i (obj (cachePs cb s)) = l from row_set_id i hi]
      refine drop_c hi (by omega) ?_
      rw [hhd] at h
      have ho3 := drop_order s x
      refine put_k (set_get hi) (by omega) (by rw [erase_set]; exact hr) hn ?_
      rw [List.set_set]
      exact h
  · rw [hh] at h
    try simp only [pureE, pureT, Nat.zero_add, Nat.reduceAdd, Bool.not_false, Bool.not_true]
    refine run_and (toS0 _ (drop_cap s fn) hi2) ?_
    refine put_k hi2 (by omega) (by rw [erase_set]; exact hr) hn ?_
    rw [List.set_set]
    exact h
end
end Go.Proofs.YtkonigmefmgepaaGreatDoor

/- Contracts: the profile (own work). -/
namespace Go.Proofs.YtkonigmefmgepaaGreatDoor
open Go.RowKit
set_option linter.unusedVariables false
set_option linter.unusedSimpArgs false

def runV (r : Int × Int) : List Value := [IV r.1, IV r.2]
def pfC (f : M.PFn) : List Value := [IV f.params, IV f.calls] ++ (List.range 8).flatMap fun i => runV (f.runs i)
theorem pfC_eq (f : M.PFn) : pfC f = [IV f.params, IV f.calls, IV (f.runs 0).1, IV (f.runs 0).2, IV (f.runs 1).1, IV (f.runs 1).2, IV (f.runs 2).1, IV (f.runs 2).2, IV (f.runs 3).1, IV (f.runs 3).2,
    IV (f.runs 4).1, IV (f.runs 4).2, IV (f.runs 5).1, IV (f.runs 5).2, IV (f.runs 6).1, IV (f.runs 6).2, IV (f.runs 7).1, IV (f.runs 7).2] := rfl
theorem pfC_len (f : M.PFn) : (pfC f).length = 18 := rfl
theorem pfC_one (f : M.PFn) : ∀ u ∈ pfC f, u.oneCell' = true := by
  intro u hu
  rw [pfC_eq] at hu
  simp only [List.mem_cons, List.not_mem_nil, or_false] at hu
  rcases hu with rfl | rfl | rfl | rfl | rfl | rfl | rfl | rfl | rfl | rfl | rfl | rfl | rfl | rfl | rfl | rfl | rfl | rfl <;> rfl
theorem pfC_v {f : M.PFn} {i : Nat} (h : i < 8) : (pfC f)[2 + i * 2]? = some (IV (f.runs i).1) := by
  rw [pfC_eq]
  rcases i with _ | _ | _ | _ | _ | _ | _ | _ | i
  all_goals first | rfl | omega
theorem pfC_t {f : M.PFn} {i : Nat} (h : i < 8) : (pfC f)[2 + i * 2 + 1]? = some (IV (f.runs i).2) := by
  rw [pfC_eq]
  rcases i with _ | _ | _ | _ | _ | _ | _ | _ | i
  all_goals first | rfl | omega
theorem pfC_setV {f : M.PFn} {i : Nat} (h : i < 8) (v t : Int) : pfC { f with runs := M.setR f.runs i (v, t) } = ((pfC f).set (2 + i * 2) (IV v)).set (2 + i * 2 + 1) (IV t) := by
  rw [pfC_eq, pfC_eq]
  rcases i with _ | _ | _ | _ | _ | _ | _ | _ | i
  all_goals first | rfl | omega

def profPs (pb : Nat) (s : List M.PFn) (v : Value) : List As := [pt pb 110 [v], row 115 18 v s.length (s.flatMap pfC)]
def profA (pb : Nat) (s : List M.PFn) : As := obj (profPs pb s)

section
variable {W0 : World} {l : List As} {K : Value → C} {pn : Pn}

theorem pfFill (n : Int) : Instr.fill (fun i => some (i * 18, 18)) ((Array.range (1 * 18)).map ((Value.agg #[IV 0, IV 0, IV 0, IV 0, IV 0, IV 0, IV 0, IV 0, IV 0, IV 0, IV 0, IV 0, IV 0, IV 0, IV 0, IV 0, IV 0, IV 0]).cells[· % (Value.agg #[IV 0, IV 0, IV 0, IV 0, IV 0, IV 0, IV 0, IV 0, IV 0, IV 0, IV 0, IV 0, IV 0, IV 0, IV 0, IV 0, IV 0, IV 0]).cells.size]!))
    [(0, .agg #[IV n, IV 0, IV 0, IV 0, IV 0, IV 0, IV 0, IV 0, IV 0, IV 0, IV 0, IV 0, IV 0, IV 0, IV 0, IV 0, IV 0, IV 0])] = some (pfC ⟨n, 0, fun _ => (0, 0)⟩).toArray := by kernel_rfl

theorem profNew_c {v : Value} {n : Nat} {ps : List Int} (hr : Rd W0 l 1 v n (numC ps)) (hn : n ≤ 4294967296)
    (h : ∀ pb, Run W0 (profA pb (M.newP ps) :: l) (K (Ptr pb))) : Run W0 l (callS P 18 #[v] K pn) := by
  refine r18 ?_
  unfold S18
  have hl : ps.length = n := rd_len numV_len (by omega) hr
  obtain ⟨a, c, rfl, h1, h2, h3⟩ := hr.form
  refine run_nx (.agg #[.slice none 0 0]) (fun w => by kernel_rfl) ?_
  refine run_box fun pb => ?_
  try simp only [pureE, pureT, Nat.zero_add, Nat.reduceAdd, Bool.not_false, Bool.not_true]
  refine run_loop (Inv := fun s : Nat => s ≤ n) (J := fun s => [Ptr pb, .slice a n c, IV n, IV s]) (H := fun s => profA pb (M.newP (ps.take s)) :: l) (μ := fun s => n - s) 0 (by omega) rfl (fun w hw => ?_) ?_
  · have h1 : St W0 (row 115 18 (.slice none 0 0) 0 [] :: pt pb 110 [.slice none 0 0] :: l) w := hw.new ⟨rfl, rfl, rfl, Nat.le_refl _, fun _ _ _ => rfl⟩ (fun _ => False) (fun _ hx => hx.elim) ⟨by simp, .inl ⟨rfl, rfl, fun _ hx => hx⟩⟩
    have h2 : St W0 (profPs pb (M.newP (ps.take 0)) (.slice none 0 0) ++ l) w := h1.front 1
    exact h2.pack fun F hs => ⟨_, hs⟩
  intro s e hs he
  simp only [List.map_cons, List.map_nil, List.cons.injEq, and_true] at he
  obtain ⟨e3, e8, e9, e10⟩ := he
  unfold S18_l1
  simp only [e3, e8, e9, e10]
  try simp only [pureE, pureT, Nat.zero_add, Nat.reduceAdd, Bool.not_false, Bool.not_true]
  by_cases hlt : s < n
  · rw [dec_t (show (s : Int) < n by omega)]
    try simp only [pureE, pureT, Nat.zero_add, Nat.reduceAdd, Bool.not_false, Bool.not_true]
    obtain ⟨x, hx⟩ : ∃ x, ps[s]? = some x := ⟨_, List.getElem?_eq_getElem (by omega)⟩
    refine run_rd_idx un71 ty3 numV_len (by omega) hr s hx fun b o hc => ?_
    refine run_ld sc3 (hc.mono fun _ hw => hw.tail) ?_
    try simp only [pureE, pureT, Nat.zero_add, Nat.reduceAdd, Bool.not_false, Bool.not_true]
    refine run_open 0 rfl fun v2 => ?_
    refine run_ld sc108 (cl1 (i := 0) rfl rfl) ?_
    refine run_nx (.agg #[IV (M.clamp8 x), IV 0, IV 0, IV 0, IV 0, IV 0, IV 0, IV 0, IV 0, IV 0, IV 0, IV 0, IV 0, IV 0, IV 0, IV 0, IV 0, IV 0]) (fun w => by kernel_rfl) ?_
    refine run_buildSlice (pfC ⟨M.clamp8 x, 0, fun _ => (0, 0)⟩) un108 ty115 (by omega) (by omega) (pfFill _) fun b3 => ?_
    have hlen : (M.newP (ps.take s)).length = s := by simp [M.newP]; omega
    refine run_append 2 un108 ty115 rfl rfl (Rd.pt (i := 0) rfl 18 (by rw [pfC_len])) (pfC_one _) (by unfold maxLen; omega) (by omega) (by omega) fun v3 _ => ?_
    refine run_drop ?_
    refine run_row_rd 1 rfl fun hrd => ?_
    obtain ⟨a2, c2, hv2, _, _, _⟩ := hrd.form
    subst hv2
    try simp only [pureE, pureT, Nat.zero_add, Nat.reduceAdd, Bool.not_false, Bool.not_true]
    refine run_st ty108 (i := 0) rfl rfl (by simp [Value.cells, Value.oneCell']) (by simp) ?_
    rw [wrN (x := (s : Int) + 1) (s + 1) (by omega) (by omega)]
    have hnew : M.newP (ps.take (s + 1)) = M.newP (ps.take s) ++ [⟨M.clamp8 x, 0, fun _ => (0, 0)⟩] := by
      unfold M.newP
      rw [List.take_add_one, hx, List.map_append]; rfl
    refine fun w hw => ⟨s + 1, by omega, by omega, rfl, ?_⟩
    have h2 : St W0 (profPs pb (M.newP (ps.take (s + 1))) (.slice a2 ((M.newP (ps.take s)).length + 1) c2) ++ l) w := by
      rw [hnew]
      unfold profPs
      simp only [List.length_append, List.length_singleton, List.flatMap_append, List.flatMap_cons, List.flatMap_nil, List.append_nil]
      exact hw
    exact h2.pack fun F hs => ⟨_, hs⟩
  · rw [dec_f (show ¬ (s : Int) < n by omega)]
    try simp only [pureE, pureT, Nat.zero_add, Nat.reduceAdd, Bool.not_false, Bool.not_true]
    rw [List.take_of_length_le (by omega)]
    exact h pb

/-- A function of the profile, in range. -/
theorem profOf_c {i pb b n c fn : Nat} (hi : l[i]? = some (pt pb 110 [.slice (some ⟨b, 0, none⟩) n c])) (hfn : fn < n)
    (h : Run W0 l (K (.pointer (some ⟨b, fn * 18, none⟩)))) : Run W0 l (callS P 37 #[Ptr pb, IV fn] K pn) := by
  refine r37 ?_
  unfold S37
  try simp only [pureE, pureT, Nat.zero_add, Nat.reduceAdd, Bool.not_false, Bool.not_true]
  rw [dec_f (show ¬ (fn : Int) < 0 by omega)]
  try simp only [pureE, pureT, Nat.zero_add, Nat.reduceAdd, Bool.not_false, Bool.not_true]
  refine run_ld sc108 (cl1 hi rfl) ?_
  try simp only [pureE, pureT, Nat.zero_add, Nat.reduceAdd, Bool.not_false, Bool.not_true]
  rw [dec_f (show ¬ (n : Int) ≤ fn by omega)]
  try simp only [pureE, pureT, Nat.zero_add, Nat.reduceAdd, Bool.not_false, Bool.not_true]
  refine run_ld sc108 (cl1 hi rfl) ?_
  refine run_nx _ (fun w => pv_idx un108 ty115 (i := (fn : Int)) (by omega) (by omega)) ?_
  rw [Int.toNat_natCast, Nat.zero_add]
  exact h

/-- One cell of an owned row is set. -/
theorem run_setRow {T : TypeId} {by_ : Nat} {z : Option Value} (hs : tyI P T = some (1, by_, z)) {i : Nat} {E : TypeId} {sz b n c : Nat} {xs : List Value} (hi : l[i]? = some (row E sz (.slice (some ⟨b, 0, none⟩) n c) n xs)) {o : Nat} {v : Value}
    (hv : v.cells = #[v]) (h1 : v.oneCell' = true) (hfit : o < xs.length) (hk : Run W0 (l.set i (row E sz (.slice (some ⟨b, 0, none⟩) n c) n (xs.set o v))) (K undef)) :
    Run W0 l (nextS P (U (Instr.storeAt T (.pointer (some ⟨b, o, none⟩)) v)) K pn) := by
  refine run_st_row hs hi (by rw [hv]; rfl) (by rw [hv]; simpa using h1) (by omega) ?_
  rw [hv, splice_one _ _ _ hfit]
  exact hk
theorem cl_row {i b n c : Nat} {E : TypeId} {sz : Nat} {xs : List Value} (hi : l[i]? = some (row E sz (.slice (some ⟨b, 0, none⟩) n c) n xs)) {o : Nat} {v : Value} (hv : xs[o]? = some v) : Cls W0 l ⟨b, o, none⟩ [v] := by
  have := (Cls.row (W0 := W0) hi).sub o [v] (fun j u hj => by
    cases j with
    | zero => simp at hj; subst hj; simpa using hv
    | succ j => simp at hj) rfl
  rwa [Addr.add_lit, Nat.zero_add] at this

/-- A run takes a value. -/
theorem runSee_c {i b n c o : Nat} {xs : List Value} {r : Int × Int} {x : Int} (hi : l[i]? = some (row 115 18 (.slice (some ⟨b, 0, none⟩) n c) n xs)) (h0 : xs[o]? = some (IV r.1)) (h1 : xs[o + 1]? = some (IV r.2))
    (h : Run W0 (l.set i (row 115 18 (.slice (some ⟨b, 0, none⟩) n c) n ((xs.set o (IV (M.seeR r x).1)).set (o + 1) (IV (M.seeR r x).2)))) (K (.tuple #[]))) :
    Run W0 l (callS P 38 #[.pointer (some ⟨b, o, none⟩), IV x] K pn) := by
  refine r38 ?_
  unfold S38
  have hl0 := (List.getElem?_eq_some_iff.1 h0).1
  have hl1 := (List.getElem?_eq_some_iff.1 h1).1
  try simp only [pureE, pureT, Nat.zero_add, Nat.reduceAdd, Bool.not_false, Bool.not_true]
  refine run_ld sc2 (cl_row hi h0) ?_
  try simp only [pureE, pureT, Nat.zero_add, Nat.reduceAdd, Bool.not_false, Bool.not_true]
  unfold M.seeR at h
  have k : ∀ (t : Int) (ys : List Value), ys.length = xs.length → ys[o + 1]? = some (IV t) → Run W0 (l.set i (row 115 18 (.slice (some ⟨b, 0, none⟩) n c) n (ys.set (o + 1) (IV (min (M.w64 (t + 1)) 1000))))) (K (.tuple #[])) →
      Run W0 (l.set i (row 115 18 (.slice (some ⟨b, 0, none⟩) n c) n ys)) (S38_k1 K pn (.pointer (some ⟨b, o, none⟩))) := by
    intro t ys hy ht hk
    unfold S38_k1
    try simp only [pureE, pureT, Nat.zero_add, Nat.reduceAdd, Bool.not_false, Bool.not_true]
    refine run_ld sc3 (cl_row (set_get hi) ht) ?_
    try simp only [pureE, pureT, Nat.zero_add, Nat.reduceAdd, Bool.not_false, Bool.not_true]
    refine run_setRow ty3 (set_get hi) rfl rfl (by omega) ?_
    rw [List.set_set]
    exact hk
  cases hq : r.1 != x
  · have hx : r.1 = x := by simpa using hq
    try simp only [pureE, pureT, Nat.zero_add, Nat.reduceAdd, Bool.not_false, Bool.not_true]
    have := k r.2 xs rfl h1 (by
      rw [if_pos hx, ← hx, set_self h0] at h
      exact h)
    rw [row_set_id i hi] at this
    exact this
  · have hx : ¬ r.1 = x := by simpa using hq
    try simp only [pureE, pureT, Nat.zero_add, Nat.reduceAdd, Bool.not_false, Bool.not_true]
    refine run_nx (.agg #[IV x, IV 0]) (fun w => by kernel_rfl) ?_
    try simp only [pureE, pureT, Nat.zero_add, Nat.reduceAdd, Bool.not_false, Bool.not_true]
    refine run_st_row ty112 hi rfl (by simp [Value.cells, Value.oneCell']) (by omega) ?_
    have e : splice xs o (Value.agg #[IV x, IV 0]).cells.toList = (xs.set o (IV x)).set (o + 1) (IV 0) := by
      show splice xs o [IV x, IV 0] = _
      unfold splice
      apply List.ext_getElem?
      intro q
      simp only [List.getElem?_set, List.length_set]
      rcases Nat.lt_trichotomy q o with hqo | rfl | hqo
      · rw [List.getElem?_append_left (by rw [List.length_take]; omega), List.getElem?_take_of_lt hqo, if_neg (by omega), if_neg (by omega)]
      · rw [List.getElem?_append_right (by rw [List.length_take]; omega), List.length_take, Nat.min_eq_left (by omega), Nat.sub_self, if_neg (by omega), if_pos rfl, if_pos hl0]; rfl
      · rcases Nat.lt_or_ge (o + 1) q with h2 | h2
        · rw [List.getElem?_append_right (by rw [List.length_take]; omega), List.length_take, Nat.min_eq_left (by omega), List.getElem?_append_right (by simp; omega), if_neg (by omega), if_neg (by omega), List.getElem?_drop]
          congr 1
          simp; omega
        · obtain rfl : q = o + 1 := by omega
          rw [List.getElem?_append_right (by rw [List.length_take]; omega), List.length_take, Nat.min_eq_left (by omega), if_pos rfl, if_pos hl1, show o + 1 - o = 1 by omega]; rfl
    rw [e]
    refine k 0 _ (by simp) (by simp [List.getElem?_set, hl1]) ?_
    rw [if_neg hx] at h
    rw [List.set_set]
    exact h

theorem seeF_at (f : M.PFn) (args : List Int) (j : Nat) : (M.seeF f args).runs j = match args[j]? with
  | some v => M.seeR (f.runs j) v
  | none => f.runs j := rfl

/-- A profile sees a call of a function that it has, with as many arguments. -/
theorem see_c {i pb m : Nat} {fn : Nat} {s : List M.PFn} {f : M.PFn} {av : Value} {args : List Int} (hi : l[i]? = some (profA pb s)) (hf : s[fn]? = some f) (hp : f.params = (args.length : Int)) (h8 : args.length ≤ 8)
    (hs : s.length ≤ 4294967296) (hr : Rd W0 (l.eraseIdx i) 1 av m (numC args))
    (h : Run W0 (l.set i (profA pb (M.seeP s fn args))) (K (IV 0))) : Run W0 l (callS P 20 #[Ptr pb, IV fn, av] K pn) := by
  refine r20 ?_
  unfold S20
  have hl : args.length = m := rd_len numV_len (by omega) hr
  have hlt := (List.getElem?_eq_some_iff.1 hf).1
  obtain ⟨a, c, rfl, h1, h2, h3⟩ := hr.form
  refine run_open i hi fun v => ?_
  refine run_row_cases 1 rfl (fun _ h2 _ => absurd h2 (by omega)) fun b cp hv hnc hcm _ => ?_
  subst hv
  refine profOf_c (i := 0) (n := s.length) (c := cp) rfl hlt ?_
  refine run_nx (.bool false) (fun w => pv_eqlPN un117) ?_
  try simp only [pureE, pureT, Nat.zero_add, Nat.reduceAdd, Bool.not_false, Bool.not_true]
  have hat0 : (s.flatMap pfC)[fn * 18]? = some (IV f.params) := flat_get (f := pfC) pfC_len hf 0 _ rfl
  have hat1 : (s.flatMap pfC)[fn * 18 + 1]? = some (IV f.calls) := flat_get (f := pfC) pfC_len hf 1 _ rfl
  refine run_ld sc3 (cl_row (i := 1) rfl hat0) ?_
  try simp only [pureE, pureT, Nat.zero_add, Nat.reduceAdd, Bool.not_false, Bool.not_true]
  rw [show ((m : Int) != f.params) = false from by rw [hp, hl]; simp]
  try simp only [pureE, pureT, Nat.zero_add, Nat.reduceAdd, Bool.not_false, Bool.not_true]
  refine run_ld sc3 (cl_row (i := 1) rfl hat1) ?_
  try simp only [pureE, pureT, Nat.zero_add, Nat.reduceAdd, Bool.not_false, Bool.not_true]
  have hfl : (s.flatMap pfC).length = s.length * 18 := flat_len pfC_len s
  refine run_setRow ty3 (i := 1) rfl rfl rfl (by omega) ?_
  let g : Nat → M.PFn := fun q => { f with calls := min (M.w64 (f.calls + 1)) 1000, runs := fun j => match (args.take q)[j]? with
    | some v => M.seeR (f.runs j) v
    | none => f.runs j }
  refine run_loop (Inv := fun q : Nat => q ≤ m) (J := fun q => [.pointer (some ⟨b, fn * 18, none⟩), .slice a m c, IV m, IV q])
    (H := fun q => pt pb 110 [.slice (some ⟨b, 0, none⟩) s.length cp] :: row 115 18 (.slice (some ⟨b, 0, none⟩) s.length cp) s.length ((s.set fn (g q)).flatMap pfC) :: l.eraseIdx i) (μ := fun q => m - q) 0 (by omega) rfl (fun w hw => ?_) ?_
  · have e : (s.flatMap pfC).set (fn * 18 + 1) (IV (min (M.w64 (f.calls + 1)) 1000)) = (s.set fn (g 0)).flatMap pfC := by
      have := flat_set (f := pfC) pfC_len (x := f) (k := 1) (y := g 0) (u := IV (min (M.w64 (f.calls + 1)) 1000)) (by omega) rfl hf
      rw [← this, splice_one _ _ _ (by omega)]
    rw [← e]
    exact hw
  intro q e hq he
  simp only [List.map_cons, List.map_nil, List.cons.injEq, and_true] at he
  obtain ⟨e7, e33, e34, e35⟩ := he
  unfold S20_l1
  simp only [e7, e33, e34, e35]
  try simp only [pureE, pureT, Nat.zero_add, Nat.reduceAdd, Bool.not_false, Bool.not_true]
  have hgq : (s.set fn (g q))[fn]? = some (g q) := by simp [hlt]
  by_cases hltq : q < m
  · rw [dec_t (show (q : Int) < m by omega)]
    try simp only [pureE, pureT, Nat.zero_add, Nat.reduceAdd, Bool.not_false, Bool.not_true]
    obtain ⟨x, hx⟩ : ∃ x, args[q]? = some x := ⟨_, List.getElem?_eq_getElem (by omega)⟩
    refine run_rd_idx un26 ty2 numV_len (by omega) hr q hx fun b2 o2 hc2 => ?_
    refine run_ld sc2 (hc2.mono fun _ hw => hw.tail.tail) ?_
    try simp only [pureE, pureT, Nat.zero_add, Nat.reduceAdd, Bool.not_false, Bool.not_true]
    refine run_nx _ (fun w => pv_idxA un113 ty112 (i := (q : Int)) (by omega) (by omega)) ?_
    rw [Int.toNat_natCast]
    have hv0 : ((s.set fn (g q)).flatMap pfC)[fn * 18 + 2 + q * 2]? = some (IV ((g q).runs q).1) := by
      rw [Nat.add_assoc]; exact flat_get (f := pfC) pfC_len hgq _ _ (pfC_v (by omega))
    have hv1 : ((s.set fn (g q)).flatMap pfC)[fn * 18 + 2 + q * 2 + 1]? = some (IV ((g q).runs q).2) := by
      have := flat_get (f := pfC) pfC_len hgq _ _ (pfC_t (f := g q) (i := q) (by omega))
      rwa [show fn * 18 + (2 + q * 2 + 1) = fn * 18 + 2 + q * 2 + 1 by omega] at this
    refine runSee_c (i := 1) (r := (g q).runs q) rfl hv0 hv1 ?_
    rw [wrN (x := (q : Int) + 1) (q + 1) (by omega) (by omega)]
    refine fun w hw => ⟨q + 1, by omega, by omega, rfl, ?_⟩
    have hgn : g (q + 1) = { g q with runs := M.setR (g q).runs q (M.seeR ((g q).runs q) x) } := by
      have hrq : (g q).runs q = f.runs q := by
        show (match (args.take q)[q]? with | some v => M.seeR (f.runs q) v | none => f.runs q) = _
        rw [List.getElem?_take, if_neg (by omega)]
      show ({ f with calls := _, runs := _ } : M.PFn) = _
      congr 1
      funext j
      show (match (args.take (q + 1))[j]? with | some v => M.seeR (f.runs j) v | none => f.runs j) = M.setR (g q).runs q (M.seeR ((g q).runs q) x) j
      unfold M.setR
      by_cases hj : j = q
      · subst hj
        rw [if_pos rfl, List.getElem?_take, if_pos (by omega), hx, hrq]
      · rw [if_neg hj]
        show _ = (match (args.take q)[j]? with | some v => M.seeR (f.runs j) v | none => f.runs j)
        rw [List.getElem?_take, List.getElem?_take]
        by_cases hjq : j < q
        · rw [if_pos hjq, if_pos (by omega)]
        · rw [if_neg hjq, if_neg (by omega)]
    have e1 : (((s.set fn (g q)).flatMap pfC).set (fn * 18 + 2 + q * 2) (IV (M.seeR ((g q).runs q) x).1)).set (fn * 18 + 2 + q * 2 + 1) (IV (M.seeR ((g q).runs q) x).2) = (s.set fn (g (q + 1))).flatMap pfC := by
      have hlen2 : ((s.set fn (g q)).flatMap pfC).length = s.length * 18 := by rw [flat_len pfC_len]; simp
      let y1 : M.PFn := { g q with runs := M.setR (g q).runs q ((M.seeR ((g q).runs q) x).1, ((g q).runs q).2) }
      have hy1 : pfC y1 = (pfC (g q)).set (2 + q * 2) (IV (M.seeR ((g q).runs q) x).1) := by
        rw [pfC_setV (by omega)]
        exact set_self (by rw [List.getElem?_set_ne (by omega)]; exact pfC_t (by omega))
      have s1 := flat_set (f := pfC) pfC_len (k := 2 + q * 2) (y := y1) (by omega) hy1 hgq
      rw [splice_one _ _ _ (by omega), ← Nat.add_assoc] at s1
      rw [s1, List.set_set]
      have hg1 : (s.set fn y1)[fn]? = some y1 := by simp [hlt]
      have hy2 : pfC (g (q + 1)) = (pfC y1).set (2 + q * 2 + 1) (IV (M.seeR ((g q).runs q) x).2) := by
        rw [hgn, hy1, ← pfC_setV (by omega)]
      have s2 := flat_set (f := pfC) pfC_len (k := 2 + q * 2 + 1) (y := g (q + 1)) (by omega) hy2 hg1
      have hlen3 : ((s.set fn y1).flatMap pfC).length = s.length * 18 := by rw [flat_len pfC_len]; simp
      rw [splice_one _ _ _ (by omega), List.set_set, show fn * 18 + (2 + q * 2 + 1) = fn * 18 + 2 + q * 2 + 1 by omega] at s2
      exact s2
    rw [← e1]
    exact hw
  · rw [dec_f (show ¬ (q : Int) < m by omega)]
    try simp only [pureE, pureT, Nat.zero_add, Nat.reduceAdd, Bool.not_false, Bool.not_true]
    have hgm : g q = M.seeF f args := by
      show ({ f with calls := _, runs := _ } : M.PFn) = _
      unfold M.seeF
      rw [List.take_of_length_le (by omega)]
      rfl
    have hP : M.seeP s fn args = s.set fn (g q) := by unfold M.seeP; rw [hf, hgm]
    rw [hP] at h
    refine run_to (profPs pb (s.set fn (g q)) (.slice (some ⟨b, 0, none⟩) s.length cp) ++ l.eraseIdx i) (fun w hw => ?_) (run_shut l i _ hi h)
    unfold profPs
    rw [List.length_set]
    exact hw

theorem value_c {i pb : Nat} {fn p : Nat} {s : List M.PFn} {f : M.PFn} (hi : l[i]? = some (profA pb s)) (hf : s[fn]? = some f) (hp : (p : Int) < f.params) (h8 : p < 8)
    (h : Run W0 l (K (.tuple #[IV (f.runs p).1, IV (f.runs p).2]))) : Run W0 l (callS P 52 #[Ptr pb, IV fn, IV p] K pn) := by
  refine r52 ?_
  unfold S52
  have hlt := (List.getElem?_eq_some_iff.1 hf).1
  refine run_open i hi fun v => ?_
  refine run_row_cases 1 rfl (fun _ h2 _ => absurd h2 (by omega)) fun b cp hv hnc hcm _ => ?_
  subst hv
  refine profOf_c (i := 0) (n := s.length) (c := cp) rfl hlt ?_
  refine run_nx (.bool false) (fun w => pv_eqlPN un117) ?_
  try simp only [pureE, pureT, Nat.zero_add, Nat.reduceAdd, Bool.not_false, Bool.not_true]
  rw [dec_f (show ¬ (p : Int) < 0 by omega)]
  try simp only [pureE, pureT, Nat.zero_add, Nat.reduceAdd, Bool.not_false, Bool.not_true]
  have hat0 : (s.flatMap pfC)[fn * 18]? = some (IV f.params) := flat_get (f := pfC) pfC_len hf 0 _ rfl
  refine run_ld sc3 (cl_row (i := 1) rfl hat0) ?_
  try simp only [pureE, pureT, Nat.zero_add, Nat.reduceAdd, Bool.not_false, Bool.not_true]
  rw [dec_f (show ¬ f.params ≤ (p : Int) by omega)]
  try simp only [pureE, pureT, Nat.zero_add, Nat.reduceAdd, Bool.not_false, Bool.not_true]
  refine run_draw (profPs pb s (.slice (some ⟨b, 0, none⟩) s.length cp) ++ l.eraseIdx i) (fun w hw => hw) ?_
  refine run_px _ (fun w => pv_idxA un113 ty112 (i := (p : Int)) (by omega) (by omega)) ?_
  rw [Int.toNat_natCast]
  try simp only [pureE, pureT, Nat.zero_add, Nat.reduceAdd, Bool.not_false, Bool.not_true]
  have hv0 : (s.flatMap pfC)[fn * 18 + 2 + p * 2]? = some (IV (f.runs p).1) := by
    rw [Nat.add_assoc]; exact flat_get (f := pfC) pfC_len hf _ _ (pfC_v h8)
  have hv1 : (s.flatMap pfC)[fn * 18 + 2 + p * 2 + 1]? = some (IV (f.runs p).2) := by
    have := flat_get (f := pfC) pfC_len hf _ _ (pfC_t (f := f) (i := p) h8)
    rwa [show fn * 18 + (2 + p * 2 + 1) = fn * 18 + 2 + p * 2 + 1 by omega] at this
  refine take_ld sc2 (cl_row (i := 1) rfl hv0) ?_
  refine run_px _ (fun w => pv_idxA un113 ty112 (i := (p : Int)) (by omega) (by omega)) ?_
  rw [Int.toNat_natCast]
  try simp only [pureE, pureT, Nat.zero_add, Nat.reduceAdd, Bool.not_false, Bool.not_true]
  refine take_ld sc3 (cl_row (i := 1) rfl hv1) ?_
  refine run_shut (ps := profPs pb s) l i (Value.slice (some ⟨b, 0, none⟩) s.length cp) hi ?_
  rw [show l.set i (obj (profPs pb s)) = l from row_set_id i hi]
  exact h
end
end Go.Proofs.YtkonigmefmgepaaGreatDoor

/- Contracts: the manager's small methods (own work). -/
namespace Go.Proofs.YtkonigmefmgepaaGreatDoor
open Go.RowKit
set_option linter.unusedVariables false
set_option linter.unusedSimpArgs false

abbrev FG := M.Fn × Value
def fnG (e : FG) : List Value := fnV e.1 e.2
theorem fnG_len (e : FG) : (fnG e).length = 5 := rfl
theorem fnG_one (e : FG) (h : e.2.oneCell' = true) : ∀ u ∈ fnG e, u.oneCell' = true := by
  intro u hu
  simp only [fnG, fnV, List.mem_cons, List.not_mem_nil, or_false] at hu
  rcases hu with rfl | rfl | rfl | rfl | rfl <;> first | rfl | exact h
def fRow (e : FG) : As := row 69 3 e.2 e.1.l.length (insC e.1.l)
def bV (b : Bool) : List Value := [.bool b]
theorem bV_len (b : Bool) : (bV b).length = 1 := rfl
theorem bV_one (b : Bool) : ∀ u ∈ bV b, u.oneCell' = true := by
  intro u hu
  simp only [bV, List.mem_singleton] at hu
  subst hu; rfl
abbrev PG := Value × List Bool
def pV (e : PG) : List Value := [e.1]
theorem pV_len (e : PG) : (pV e).length = 1 := rfl
def pRow (e : PG) : As := row 4 1 e.1 e.2.length (e.2.flatMap bV)
def evV (e : Int × Int) : List Value := [IV e.1, IV e.2]
theorem evV_len (e : Int × Int) : (evV e).length = 2 := rfl
theorem evV_one (e : Int × Int) : ∀ u ∈ evV e, u.oneCell' = true := by
  intro u hu
  simp only [evV, List.mem_cons, List.not_mem_nil, or_false] at hu
  rcases hu with rfl | rfl <;> rfl
abbrev GG := Int × ((Int × Int) × Nat)
def ggEnt (e : GG) : Ent := (e.1, .agg #[IV e.2.1.1, IV e.2.1.2], e.2.2)
def ggMod (e : GG) : Int × (Int × Int) := (e.1, e.2.1)

/-- What of a manager's memory stays. -/
structure MS where
  cb : Nat
  pb : Nat
  chb : Nat
  cap : Nat
  gb : Nat
  cv : Value
  pv : Value
  fs : List FG
  ps : List PG
/-- What of it turns. -/
structure MD where
  ev : Value
  clk : Nat
  s : Nat
  r : Nat
  gg : List GG
def mgrPs (b : Nat) (t : MS) (s : M.Mgr) (g : MD) : List As :=
  [pt b 66 [Ptr t.cb, t.cv, t.pv, .chan (some t.chb), Ptr t.pb, .map (some t.gb), g.ev], cacheA t.cb s.cache, row 59 5 t.cv t.fs.length (t.fs.flatMap fnG), big (t.fs.map fRow), row 56 1 t.pv t.ps.length (t.ps.flatMap pV), big (t.ps.map pRow),
    ch t.chb t.cap (s.picks.map IV) g.s g.r, profA t.pb s.prof, mp t.gb ((g.gg.map ggEnt).map ent) g.clk, row 52 2 g.ev s.events.length (s.events.flatMap evV), pur (g.gg.map ggMod = s.guards ∧ t.fs.map (·.1) = s.fns ∧ t.ps.map (·.2) = s.pub)]
def mgrA (b : Nat) (t : MS) (s : M.Mgr) : As := obj (mgrPs b t s)

section
variable {W0 : World} {l : List As} {K : Value → C} {pn : Pn}

theorem mgr_fns {i b : Nat} {t : MS} {s : M.Mgr} {c : C} (hi : l[i]? = some (mgrA b t s)) (h : t.fs.map (·.1) = s.fns → t.ps.map (·.2) = s.pub → Rd W0 l 5 t.cv t.fs.length (t.fs.flatMap fnG) → Run W0 l c) : Run W0 l c := by
  refine run_sub_rd (E := 59) (sz := 5) (v := t.cv) (n := t.fs.length) (xs := t.fs.flatMap fnG) (fun w hw => ?_) fun hrd => ?_
  · obtain ⟨g, hg⟩ := hw.open_ hi
    exact ⟨_, 2, hg, rfl⟩
  · intro w hw
    obtain ⟨g, hg⟩ := hw.open_ hi
    obtain ⟨F, _, hp⟩ := hg.get (i := 10) rfl
    exact h hp.2.1 hp.2.2 hrd w hw
theorem mgr_pub {i b : Nat} {t : MS} {s : M.Mgr} {c : C} (hi : l[i]? = some (mgrA b t s)) (h : Rd W0 l 1 t.pv t.ps.length (t.ps.flatMap pV) → Run W0 l c) : Run W0 l c := by
  refine run_sub_rd (E := 56) (fun w hw => ?_) h
  obtain ⟨g, hg⟩ := hw.open_ hi
  exact ⟨_, 4, hg, rfl⟩
theorem mgr_fn {i b k : Nat} {t : MS} {s : M.Mgr} {c : C} {e : FG} (hi : l[i]? = some (mgrA b t s)) (hk : t.fs[k]? = some e) (h : Rd W0 l 3 e.2 e.1.l.length (insC e.1.l) → Run W0 l c) : Run W0 l c := by
  refine run_sub_rd (E := 69) (fun w hw => ?_) h
  obtain ⟨g, hg⟩ := hw.open_ hi
  have h1 := hg.openB (i := 3) rfl
  refine ⟨_, k, h1, ?_⟩
  have : (t.fs.map fRow)[k]? = some (fRow e) := by rw [List.getElem?_map, hk]; rfl
  rw [List.getElem?_append_left (List.getElem?_eq_some_iff.1 this).1, this]
  rfl
theorem mgr_pb {i b k : Nat} {t : MS} {s : M.Mgr} {c : C} {e : PG} (hi : l[i]? = some (mgrA b t s)) (hk : t.ps[k]? = some e) (h : Rd W0 l 1 e.1 e.2.length (e.2.flatMap bV) → Run W0 l c) : Run W0 l c := by
  refine run_sub_rd (E := 4) (fun w hw => ?_) h
  obtain ⟨g, hg⟩ := hw.open_ hi
  have h1 := hg.openB (i := 5) rfl
  refine ⟨_, k, h1, ?_⟩
  have : (t.ps.map pRow)[k]? = some (pRow e) := by rw [List.getElem?_map, hk]; rfl
  rw [List.getElem?_append_left (List.getElem?_eq_some_iff.1 this).1, this]
  rfl
/-- A field that stays. -/
theorem mgr_fld {i b o : Nat} {t : MS} {s : M.Mgr} {v : Value} (hi : l[i]? = some (mgrA b t s)) (hv : ∀ x : Value, [Ptr t.cb, t.cv, t.pv, .chan (some t.chb), Ptr t.pb, .map (some t.gb), x][o]? = some v) : Cls W0 l ⟨b, o, none⟩ [v] := by
  intro w hw
  obtain ⟨g, hg⟩ := hw.open_ hi
  exact cl1 (W0 := W0) (i := 0) (b := b) (T := 66) (l := mgrPs b t s g ++ l.eraseIdx i) rfl (hv g.ev) w hg

theorem params_c {i b fn : Nat} {t : MS} {s : M.Mgr} (hi : l[i]? = some (mgrA b t s)) (hfn : fn < s.fns.length) (h : Run W0 l (K (IV (M.paramsM s fn)))) : Run W0 l (callS P 35 #[Ptr b, IV fn] K pn) := by
  refine r35 ?_
  unfold S35
  refine mgr_fns hi fun hf _ hrd => ?_
  have hfl : t.fs.length = s.fns.length := by rw [← hf, List.length_map]
  obtain ⟨e, he⟩ : ∃ e, t.fs[fn]? = some e := ⟨_, List.getElem?_eq_getElem (by omega)⟩
  have hef : s.fns[fn]? = some e.1 := by rw [← hf, List.getElem?_map, he]; rfl
  try simp only [pureE, pureT, Nat.zero_add, Nat.reduceAdd, Bool.not_false, Bool.not_true]
  refine run_ld sc22 (mgr_fld hi fun x => rfl) ?_
  refine run_rd_idx un22 ty59 fnG_len (by omega) hrd fn he fun b2 o2 hc2 => ?_
  try simp only [pureE, pureT, Nat.zero_add, Nat.reduceAdd, Bool.not_false, Bool.not_true]
  refine run_ld sc3 (hc2.fld (k := 1) rfl) ?_
  try simp only [pureE, pureT, Nat.zero_add, Nat.reduceAdd, Bool.not_false, Bool.not_true]
  unfold M.paramsM at h
  rw [hef] at h
  have : ((M.clamp8 e.1.params).toNat : Int) = min (max e.1.params 0) 8 := by unfold M.clamp8; omega
  simp only [this] at h
  exact h

theorem open_c {i b fn p : Nat} {t : MS} {s : M.Mgr} (hi : l[i]? = some (mgrA b t s)) (h : Run W0 l (K (.bool (M.openM s.pub fn p)))) : Run W0 l (callS P 36 #[Ptr b, IV fn, IV p] K pn) := by
  refine r36 ?_
  unfold S36
  refine mgr_fns hi fun _ hp _ => ?_
  refine mgr_pub hi fun hrd => ?_
  have hpl : t.ps.length = s.pub.length := by rw [← hp, List.length_map]
  obtain ⟨a, c, hv, _, _, _⟩ := hrd.form
  try simp only [pureE, pureT, Nat.zero_add, Nat.reduceAdd, Bool.not_false, Bool.not_true]
  refine run_ld sc25 (mgr_fld hi fun x => rfl) ?_
  rw [hv]
  try simp only [pureE, pureT, Nat.zero_add, Nat.reduceAdd, Bool.not_false, Bool.not_true]
  by_cases h1 : fn < t.ps.length
  · obtain ⟨e, he⟩ : ∃ e, t.ps[fn]? = some e := ⟨_, List.getElem?_eq_getElem h1⟩
    have hep : s.pub[fn]? = some e.2 := by rw [← hp, List.getElem?_map, he]; rfl
    unfold M.openM at h
    simp only [hep] at h
    rw [dec_t (show (fn : Int) < (t.ps.length : Int) by omega)]
    try simp only [pureE, pureT, Nat.zero_add, Nat.reduceAdd, Bool.not_false, Bool.not_true]
    refine run_ld sc25 (mgr_fld hi fun x => rfl) ?_
    refine run_rd_idx un25 ty56 pV_len (by omega) hrd fn he fun b2 o2 hc2 => ?_
    refine run_ld sc56 hc2 ?_
    refine mgr_pb hi he fun hrb => ?_
    obtain ⟨a2, c2, hv2, _, _, _⟩ := hrb.form
    rw [hv2]
    try simp only [pureE, pureT, Nat.zero_add, Nat.reduceAdd, Bool.not_false, Bool.not_true]
    by_cases h2 : p < e.2.length
    · obtain ⟨bb, hbb⟩ : ∃ bb, e.2[p]? = some bb := ⟨_, List.getElem?_eq_getElem h2⟩
      rw [dec_t (show (p : Int) < (e.2.length : Int) by omega)]
      try simp only [pureE, pureT, Nat.zero_add, Nat.reduceAdd, Bool.not_false, Bool.not_true]
      refine run_ld sc25 (mgr_fld hi fun x => rfl) ?_
      refine run_rd_idx un25 ty56 pV_len (by omega) hrd fn he fun b3 o3 hc3 => ?_
      refine run_ld sc56 hc3 ?_
      refine run_rd_idx un56 ty4 bV_len (by omega) hrb p hbb fun b4 o4 hc4 => ?_
      refine run_ld sc4 hc4 ?_
      rw [hbb] at h
      cases bb
      · try simp only [pureE, pureT, Nat.zero_add, Nat.reduceAdd, Bool.not_false, Bool.not_true]
        exact h
      · try simp only [pureE, pureT, Nat.zero_add, Nat.reduceAdd, Bool.not_false, Bool.not_true]
        exact h
    · rw [dec_f (show ¬ (p : Int) < (e.2.length : Int) by omega)]
      rw [List.getElem?_eq_none (by omega)] at h
      try simp only [pureE, pureT, Nat.zero_add, Nat.reduceAdd, Bool.not_false, Bool.not_true]
      exact h
  · rw [dec_f (show ¬ (fn : Int) < (t.ps.length : Int) by omega)]
    unfold M.openM at h
    rw [List.getElem?_eq_none (by omega)] at h
    try simp only [pureE, pureT, Nat.zero_add, Nat.reduceAdd, Bool.not_false, Bool.not_true]
    exact h

theorem note_c {i b : Nat} {t : MS} {s : M.Mgr} {k fn : Int} (hi : l[i]? = some (mgrA b t s)) (he : s.events.length ≤ 4294967295) (h : Run W0 (l.set i (mgrA b t (M.noteM s k fn))) (K (.tuple #[]))) : Run W0 l (callS P 26 #[Ptr b, IV k, IV fn] K pn) := by
  refine r26 ?_
  unfold S26
  refine run_open i hi fun g => ?_
  try simp only [pureE, pureT, Nat.zero_add, Nat.reduceAdd, Bool.not_false, Bool.not_true]
  refine run_ld sc45 (cl1 (i := 0) rfl rfl) ?_
  refine run_nx (.agg #[IV k, IV fn]) (fun w => by kernel_rfl) ?_
  refine run_buildSlice (evV (k, fn)) un45 ty52 (by omega) (by omega) (by kernel_rfl) fun b3 => ?_
  refine run_append 10 un45 ty52 rfl rfl (Rd.pt (i := 0) rfl 2 (by simp [evV])) (evV_one _) (by unfold maxLen; omega) (by omega) (by omega) fun ev' _ => ?_
  refine run_drop ?_
  refine run_row_rd 9 rfl fun hrd => ?_
  obtain ⟨a2, c2, hv2, _, _, _⟩ := hrd.form
  subst hv2
  try simp only [pureE, pureT, Nat.zero_add, Nat.reduceAdd, Bool.not_false, Bool.not_true]
  refine run_st ty45 (i := 0) rfl rfl (by simp [Value.cells, Value.oneCell']) (by simp) ?_
  refine run_to (mgrPs b t (M.noteM s k fn) { g with ev := .slice a2 (s.events.length + 1) c2 } ++ l.eraseIdx i) (fun w hw => ?_) (run_shut l i _ hi h)
  unfold mgrPs M.noteM
  simp only [List.length_append, List.length_singleton, List.flatMap_append, List.flatMap_cons, List.flatMap_nil, List.append_nil]
  exact hw

theorem events_c {i b : Nat} {t : MS} {s : M.Mgr} (hi : l[i]? = some (mgrA b t s)) (he : s.events.length ≤ 4294967295)
    (h : ∀ v', Run W0 (row 52 2 v' s.events.length (s.events.flatMap evV) :: l) (K v')) : Run W0 l (callS P 12 #[Ptr b] K pn) := by
  refine r12 ?_
  unfold S12
  refine run_open i hi fun g => ?_
  try simp only [pureE, pureT, Nat.zero_add, Nat.reduceAdd, Bool.not_false, Bool.not_true]
  refine run_ld sc45 (cl1 (i := 0) rfl rfl) ?_
  refine run_row_rd 9 rfl fun hrd => ?_
  refine cloneEv_c hrd (flat_one evV_one _) (by omega) fun v' _ => ?_
  refine run_shut1 l i g hi ?_
  rw [show l.set i (obj (mgrPs b t s)) = l from row_set_id i hi]
  exact h v'

theorem pick_c {i b : Nat} {t : MS} {s : M.Mgr} (hi : l[i]? = some (mgrA b t s)) (h : Run W0 (l.set i (mgrA b t { s with picks := s.picks.tail })) (K (IV (s.picks.headD 0)))) : Run W0 l (callS P 22 #[Ptr b] K pn) := by
  refine r22 ?_
  unfold S22
  refine run_open i hi fun g => ?_
  try simp only [pureE, pureT, Nat.zero_add, Nat.reduceAdd, Bool.not_false, Bool.not_true]
  refine run_ld sc62 (cl1 (i := 0) rfl rfl) ?_
  cases hp : s.picks with
  | nil =>
    refine run_recv0 ty2 (i := 6) (cap := t.cap) (s := g.s) (r := g.r) (by simp only [mgrPs, hp]; rfl) ?_
    try simp only [pureE, pureT, Nat.zero_add, Nat.reduceAdd, Bool.not_false, Bool.not_true]
    rw [show ((-1 : Int) == 0) = false from rfl]
    try simp only [pureE, pureT, Nat.zero_add, Nat.reduceAdd, Bool.not_false, Bool.not_true]
    rw [hp] at h
    refine run_to (mgrPs b t { s with picks := s.picks.tail } g ++ l.eraseIdx i) (fun w hw => ?_) (run_shut l i _ hi (by rw [hp]; exact h))
    have : ({ s with picks := s.picks.tail } : M.Mgr) = s := by
      cases s; simp only at hp; subst hp; rfl
    rw [this]; exact hw
  | cons x xs =>
    refine run_recv ty2 (i := 6) (cap := t.cap) (buf := xs.map IV) (x := IV x) (s := g.s) (r := g.r) (by simp only [mgrPs, hp]; rfl) fun r' => ?_
    try simp only [pureE, pureT, Nat.zero_add, Nat.reduceAdd, Bool.not_false, Bool.not_true]
    rw [show ((0 : Int) == 0) = true from rfl]
    try simp only [pureE, pureT, Nat.zero_add, Nat.reduceAdd, Bool.not_false, Bool.not_true]
    rw [hp] at h
    refine run_to (mgrPs b t { s with picks := xs } { g with r := r' } ++ l.eraseIdx i) (fun w hw => hw) (run_shut l i _ hi h)
end
end Go.Proofs.YtkonigmefmgepaaGreatDoor

/- Contracts: what a manager sees, compiles, throws away (own work). -/
namespace Go.Proofs.YtkonigmefmgepaaGreatDoor
open Go.RowKit
set_option linter.unusedVariables false
set_option linter.unusedSimpArgs false

def ggset (k : Int) (x : Int × Int) (c : Nat) : List GG → List GG
  | [] => [(k, x, c)]
  | e :: es => if k = e.1 then (k, x, e.2.2) :: es else e :: ggset k x c es
theorem ggmget (k : Int) : ∀ gs : List GG, mget k (gs.map ggEnt) = (M.aget k gs).map (fun x => .agg #[IV x.1.1, IV x.1.2])
  | [] => rfl
  | e :: es => by
    simp only [List.map_cons, mget, M.aget, ggEnt]
    split
    · rfl
    · exact ggmget k es
theorem ggaget (k : Int) : ∀ gs : List GG, M.aget k (gs.map ggMod) = (M.aget k gs).map (·.1)
  | [] => rfl
  | e :: es => by
    simp only [List.map_cons, M.aget, ggMod]
    split
    · rfl
    · exact ggaget k es
theorem ggmdel (k : Int) : ∀ gs : List GG, mdel k (gs.map ggEnt) = (M.adel k gs).map ggEnt
  | [] => rfl
  | e :: es => by
    simp only [List.map_cons, mdel, M.adel, ggEnt]
    split
    · rfl
    · rw [ggmdel k es]; rfl
theorem ggadel (k : Int) : ∀ gs : List GG, M.adel k (gs.map ggMod) = (M.adel k gs).map ggMod
  | [] => rfl
  | e :: es => by
    simp only [List.map_cons, M.adel, ggMod]
    split
    · rfl
    · rw [ggadel k es]; rfl
theorem ggmset (k : Int) (x : Int × Int) (c : Nat) : ∀ gs : List GG, mset k (.agg #[IV x.1, IV x.2]) c (gs.map ggEnt) = (ggset k x c gs).map ggEnt
  | [] => rfl
  | e :: es => by
    simp only [List.map_cons, mset, ggset, ggEnt]
    split
    · rfl
    · rw [ggmset k x c es]; rfl
theorem ggaset (k : Int) (x : Int × Int) (c : Nat) : ∀ gs : List GG, M.aset k x (gs.map ggMod) = (ggset k x c gs).map ggMod
  | [] => rfl
  | e :: es => by
    simp only [List.map_cons, M.aset, ggset, ggMod]
    split
    · rfl
    · rw [ggaset k x c es]; rfl

section
variable {W0 : World} {l : List As} {K : Value → C} {pn : Pn}

theorem gone_c {i b : Nat} {t : MS} {s : M.Mgr} {fn : Int} (hi : l[i]? = some (mgrA b t s)) (he : s.events.length ≤ 4294967295) (h : Run W0 (l.set i (mgrA b t (M.goneM s fn))) (K (.tuple #[]))) : Run W0 l (callS P 25 #[Ptr b, IV fn] K pn) := by
  refine r25 ?_
  unfold S25
  refine run_open i hi fun g => ?_
  refine run_pur 10 rfl fun hg => ?_
  try simp only [pureE, pureT, Nat.zero_add, Nat.reduceAdd, Bool.not_false, Bool.not_true]
  refine run_ld sc63 (cl1 (i := 0) rfl rfl) ?_
  refine run_delete un63 un3 (i := 8) rfl ?_
  refine run_setPur 10 ((M.adel fn g.gg).map ggMod = M.adel fn s.guards ∧ t.fs.map (·.1) = s.fns ∧ t.ps.map (·.2) = s.pub) rfl ⟨by rw [← hg.1, ggadel], hg.2⟩ ?_
  refine run_to (mgrPs b t { s with guards := M.adel fn s.guards } { g with gg := M.adel fn g.gg } ++ l.eraseIdx i) (fun w hw => ?_) (run_shut l i _ hi ?_)
  · unfold mgrPs
    simp only
    rw [← ggmdel]
    exact hw
  refine note_c (set_get hi) he ?_
  rw [List.set_set]
  exact h

theorem seen_c {i b fn m : Nat} {t : MS} {s : M.Mgr} {av : Value} {args : List Int} (hi : l[i]? = some (mgrA b t s)) (hfn : fn < s.fns.length) (hr : Rd W0 l 1 av m (numC args))
    (h : ∀ v', Run W0 (row 2 1 v' (M.paramsM s fn) (numC (M.seenM s fn args)) :: l) (K v')) : Run W0 l (callS P 19 #[Ptr b, IV fn, av] K pn) := by
  refine r19 ?_
  unfold S19
  have hl : args.length = m := rd_len numV_len (by omega) hr
  have hk8 : M.paramsM s fn ≤ 8 := by unfold M.paramsM M.clamp8; split <;> omega
  refine params_c hi hfn ?_
  unfold M.seenM at h
  generalize hkk : M.paramsM s fn = k at *
  refine run_makeSlice un26 ty2 rfl (n := k) (by unfold maxLen; omega) (by omega) fun sb => ?_
  refine run_rowOfPt 0 1 k rfl (by rw [length_zeros]; rfl) (by unfold maxLen; omega) ?_
  have hz : zeros (IV 0) k = numC (List.replicate k 0) := by
    rw [zeros_one rfl]
    have : ∀ k, List.replicate k (IV 0) = numC (List.replicate k 0) := by
      intro k
      induction k with
      | zero => rfl
      | succ k ih => rw [List.replicate_succ, List.replicate_succ, ih]; rfl
    exact this k
  rw [hz]
  let base : Nat → List Int := fun q => (List.range k).map fun j => if j < q ∧ M.openM s.pub fn j = false then 0 else (args[j]?).getD 0
  have hbl : ∀ q, (base q).length = k := by intro q; simp [base]
  refine run_copy_row' un26 ty2 (i := 0) rfl (hr.mono fun _ hw => hw.tail) (flat_one numV_one _) ?_ ?_
  · rw [Nat.zero_add, List.length_take, flat_len numV_len, flat_len numV_len, List.length_replicate]; omega
  have hcp : splice (numC (List.replicate k 0)) 0 ((numC args).take (min m k * 1)) = numC (base 0) := by
    rw [flat_take numV_len]
    have := flat_splice (f := numV) numV_len (List.replicate k 0) (args.take (min m k)) 0
    rw [Nat.zero_mul] at this
    rw [this]
    congr 1
    apply List.ext_getElem?
    intro j
    simp only [List.take_zero, List.nil_append, Nat.zero_add, base, List.getElem?_map, List.length_take]
    rcases Nat.lt_or_ge j (min m k) with h1 | h1
    · rw [List.getElem?_append_left (by rw [List.length_take]; omega), List.getElem?_take, if_pos h1, List.getElem?_range (by omega)]
      obtain ⟨x, hx⟩ : ∃ x, args[j]? = some x := ⟨_, List.getElem?_eq_getElem (by omega)⟩
      rw [hx]; simp [hx]
    · rw [List.getElem?_append_right (by rw [List.length_take]; omega), List.getElem?_drop, List.length_take]
      rcases Nat.lt_or_ge j k with h2 | h2
      · rw [List.getElem?_range h2, show min (min m k) args.length + (j - min (min m k) args.length) = j by omega]
        simp only [Option.map_some, Nat.not_lt_zero, false_and, if_false]
        rw [List.getElem?_eq_none (show args.length ≤ j by omega)]
        rw [List.getElem?_replicate, if_pos h2]; rfl
      · rw [List.getElem?_eq_none (by simp; omega), List.getElem?_eq_none (by simp; omega)]; rfl
  rw [hcp]
  try simp only [pureE, pureT, Nat.zero_add, Nat.reduceAdd, Bool.not_false, Bool.not_true]
  refine run_loop (Inv := fun q : Nat => q ≤ k) (J := fun q => [Ptr b, IV fn, .slice (some ⟨sb, 0, none⟩) k k, IV k, IV q]) (H := fun q => row 2 1 (.slice (some ⟨sb, 0, none⟩) k k) k (numC (base q)) :: l) (μ := fun q => k - q) 0 (by omega) rfl (fun w hw => hw) ?_
  intro q e hq he
  simp only [List.map_cons, List.map_nil, List.cons.injEq, and_true] at he
  obtain ⟨e0, e1, e7, e17, e18⟩ := he
  unfold S19_l1
  simp only [e0, e1, e7, e17, e18]
  try simp only [pureE, pureT, Nat.zero_add, Nat.reduceAdd, Bool.not_false, Bool.not_true]
  by_cases hlt : q < k
  · rw [dec_t (show (q : Int) < k by omega)]
    try simp only [pureE, pureT, Nat.zero_add, Nat.reduceAdd, Bool.not_false, Bool.not_true]
    refine open_c (i := i + 1) (by simpa using hi) ?_
    unfold S19_k2
    try simp only [pureE, pureT, Nat.zero_add, Nat.reduceAdd, Bool.not_false, Bool.not_true]
    rw [wrN (x := (q : Int) + 1) (q + 1) (by omega) (by omega)]
    cases ho : M.openM s.pub fn q
    · try simp only [pureE, pureT, Nat.zero_add, Nat.reduceAdd, Bool.not_false, Bool.not_true]
      refine run_nx _ (fun w => pv_idx un26 ty2 (i := (q : Int)) (by omega) (by omega)) ?_
      rw [Int.toNat_natCast, Nat.zero_add, Nat.mul_one]
      refine run_setRow ty2 (i := 0) rfl rfl rfl (by rw [flat_len numV_len, hbl]; omega) ?_
      refine fun w hw => ⟨q + 1, by omega, by omega, rfl, ?_⟩
      have e1 : (numC (base q)).set q (IV 0) = numC (base (q + 1)) := by
        have := flat_splice1 (f := numV) numV_len (base q) 0 (k := q) (by rw [hbl]; omega)
        rw [Nat.mul_one, splice_one _ _ _ (by rw [flat_len numV_len, hbl]; omega)] at this
        rw [this]
        congr 1
        apply List.ext_getElem?
        intro j
        rw [List.getElem?_set]
        by_cases hj : q = j
        · subst hj
          rw [if_pos rfl, if_pos (by rw [hbl]; exact hlt)]
          simp [base, hlt, ho]
        · rw [if_neg hj]
          simp only [base, List.getElem?_map]
          rcases Nat.lt_or_ge j k with h2 | h2
          · rw [List.getElem?_range h2]
            simp only [Option.map_some]
            congr 2
            simp only [eq_iff_iff]
            constructor
            · rintro ⟨h3, h4⟩; exact ⟨by omega, h4⟩
            · rintro ⟨h3, h4⟩; exact ⟨by omega, h4⟩
          · rw [List.getElem?_eq_none (by simpa using h2)]; rfl
      rw [← e1]
      exact hw
    · try simp only [pureE, pureT, Nat.zero_add, Nat.reduceAdd, Bool.not_false, Bool.not_true]
      refine fun w hw => ⟨q + 1, by omega, by omega, rfl, ?_⟩
      have e1 : base (q + 1) = base q := by
        apply List.map_congr_left
        intro j hj
        congr 1
        simp only [eq_iff_iff]
        constructor
        · rintro ⟨h3, h4⟩
          refine ⟨?_, h4⟩
          rcases Nat.lt_or_ge j q with h5 | h5
          · exact h5
          · obtain rfl : j = q := by omega
            rw [ho] at h4; exact absurd h4 (by simp)
        · rintro ⟨h3, h4⟩; exact ⟨by omega, h4⟩
      rw [e1]
      exact hw
  · rw [dec_f (show ¬ (q : Int) < k by omega)]
    try simp only [pureE, pureT, Nat.zero_add, Nat.reduceAdd, Bool.not_false, Bool.not_true]
    have e1 : base q = (List.range k).map fun i => if M.openM s.pub fn i then (args[i]?).getD 0 else 0 := by
      apply List.map_congr_left
      intro j hj
      have hjk : j < k := by simpa using hj
      cases ho : M.openM s.pub fn j
      · rw [if_pos ⟨by omega, rfl⟩]; rfl
      · simp
    rw [e1]
    exact h _
end
end Go.Proofs.YtkonigmefmgepaaGreatDoor
