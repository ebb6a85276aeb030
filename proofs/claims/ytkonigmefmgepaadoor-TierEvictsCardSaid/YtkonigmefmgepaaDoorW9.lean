/- Contracts: the cache (own work). -/
import Derived.Test.YtkonigmefmgepaaDoorW8
namespace Go.Proofs.YtkonigmefmgepaaDoor
open Go.RowKit
set_option linter.unusedVariables false
set_option linter.unusedSimpArgs false

abbrev GB := Int × (List M.Ins × Value × Nat)
def gEnt (e : GB) : Ent := (e.1, e.2.2.1, e.2.2.2)
def gMod (e : GB) : Int × List M.Ins := (e.1, e.2.1)
def gRow (e : GB) : As := row 51 3 e.2.2.1 e.2.1.length (insC e.2.1)
def gset (k : Int) (L : List M.Ins) (v : Value) (c : Nat) : List GB → List GB
  | [] => [(k, L, v, c)]
  | e :: es => if k = e.1 then (k, L, v, e.2.2.2) :: es else e :: gset k L v c es
theorem gmget (k : Int) : ∀ gs : List GB, mget k (gs.map gEnt) = (M.aget k gs).map (·.2.1)
  | [] => rfl
  | e :: es => by
    simp only [List.map_cons, mget, M.aget, gEnt]
    split
    · rfl
    · exact gmget k es
theorem gaget (k : Int) : ∀ gs : List GB, M.aget k (gs.map gMod) = (M.aget k gs).map (·.1)
  | [] => rfl
  | e :: es => by
    simp only [List.map_cons, M.aget, gMod]
    split
    · rfl
    · exact gaget k es
theorem gmdel (k : Int) : ∀ gs : List GB, mdel k (gs.map gEnt) = (M.adel k gs).map gEnt
  | [] => rfl
  | e :: es => by
    simp only [List.map_cons, mdel, M.adel, gEnt]
    split
    · rfl
    · rw [gmdel k es]; rfl
theorem gadel (k : Int) : ∀ gs : List GB, M.adel k (gs.map gMod) = (M.adel k gs).map gMod
  | [] => rfl
  | e :: es => by
    simp only [List.map_cons, M.adel, gMod]
    split
    · rfl
    · rw [gadel k es]; rfl
theorem gmset (k : Int) (L : List M.Ins) (v : Value) (c : Nat) : ∀ gs : List GB, mset k v c (gs.map gEnt) = (gset k L v c gs).map gEnt
  | [] => rfl
  | e :: es => by
    simp only [List.map_cons, mset, gset, gEnt]
    split
    · rfl
    · rw [gmset k L v c es]; rfl
theorem gaset (k : Int) (L : List M.Ins) (v : Value) (c : Nat) : ∀ gs : List GB, M.aset k L (gs.map gMod) = (gset k L v c gs).map gMod
  | [] => rfl
  | e :: es => by
    simp only [List.map_cons, M.aset, gset, gMod]
    split
    · rfl
    · rw [gaset k L v c es]; rfl
theorem sat_adel (k : Int) : ∀ (gs : List GB) (F : Nat → Prop) (w : World), Sat (gs.map gRow) F w → Sat ((M.adel k gs).map gRow) F w
  | [], F, w, h => h
  | e :: es, F, w, ⟨F1, F2, h1, h2, h3, h4, h5⟩ => by
    simp only [M.adel]
    split
    · exact h5.mono h2
    · exact ⟨F1, F2, h1, h2, h3, h4, sat_adel k es F2 w h5⟩
theorem sat_gset (k : Int) (L : List M.Ins) (v : Value) (c : Nat) : ∀ (gs : List GB) (F : Nat → Prop) (w : World), Sat (row 51 3 v L.length (insC L) :: gs.map gRow) F w → Sat ((gset k L v c gs).map gRow) F w
  | [], F, w, h => h
  | e :: es, F, w, ⟨F1, F2, h1, h2, h3, h4, G1, G2, g1, g2, g3, g4, g5⟩ => by
    simp only [gset]
    split
    · exact ⟨F1, G2, h1, fun b hb => h2 b (g2 b hb), fun b hb hq => h3 b hb (g2 b hq), h4, g5⟩
    · refine ⟨G1, fun b => F1 b ∨ G2 b, fun b hb => h2 b (g1 b hb), fun b hb => hb.elim (h1 b) fun hb => h2 b (g2 b hb), fun b hb hq => hq.elim (fun hq => h3 b hq (g1 b hb)) (g3 b hb), g4, ?_⟩
      exact sat_gset k L v c es _ w ⟨F1, G2, fun b hb => .inl hb, fun b hb => .inr hb, fun b hb hq => h3 b hb (g2 b hq), h4, g5⟩

structure CG where
  ov : Value
  mb : Nat
  clk : Nat
  gs : List GB
def cachePs (cb : Nat) (s : M.Cache) (g : CG) : List As :=
  [pt cb 91 [IV s.cap, g.ov, .map (some g.mb)], row 3 1 g.ov s.order.length (numC s.order), mp g.mb ((g.gs.map gEnt).map ent) g.clk, big (g.gs.map gRow), pur (g.gs.map gMod = s.bodies)]
def cacheA (cb : Nat) (s : M.Cache) : As := obj (cachePs cb s)

section
variable {W0 : World} {l : List As} {K : Value → C} {pn : Pn}

theorem cacheNew_c {n : Int} (h : ∀ cb, Run W0 (cacheA cb ⟨min (max n 1) 32, [], []⟩ :: l) (K (Ptr cb))) : Run W0 l (callS P 18 #[IV n] K pn) := by
  refine r18 ?_
  unfold S18
  try simp only [pureE, pureT, Nat.zero_add, Nat.reduceAdd, Bool.not_false, Bool.not_true]
  refine run_makeMap fun mb => ?_
  refine run_nx (.agg #[IV (min (max n 1) 32), .slice none 0 0, .map (some mb)]) (fun w => by kernel_rfl) ?_
  refine run_box fun cb => ?_
  refine run_to (cachePs cb ⟨min (max n 1) 32, [], []⟩ ⟨.slice none 0 0, mb, 0, []⟩ ++ l) (fun w hw => ?_) (run_pack _ (h cb))
  have h1 : St W0 (row 3 1 (.slice none 0 0) 0 [] :: pt cb 91 [IV (min (max n 1) 32), .slice none 0 0, .map (some mb)] :: mp mb [] 0 :: l) w := hw.new ⟨rfl, rfl, rfl, Nat.le_refl _, fun _ _ _ => rfl⟩ (fun _ => False) (fun _ hx => hx.elim) ⟨by simp, .inl ⟨rfl, rfl, fun _ hx => hx⟩⟩
  have h2 : St W0 (pur (([] : List GB).map gMod = []) :: row 3 1 (.slice none 0 0) 0 [] :: pt cb 91 [IV (min (max n 1) 32), .slice none 0 0, .map (some mb)] :: mp mb [] 0 :: l) w := h1.new ⟨rfl, rfl, rfl, Nat.le_refl _, fun _ _ _ => rfl⟩ (fun _ => False) (fun _ hx => hx.elim) rfl
  have h3 : St W0 (big [] :: pur (([] : List GB).map gMod = []) :: row 3 1 (.slice none 0 0) 0 [] :: pt cb 91 [IV (min (max n 1) 32), .slice none 0 0, .map (some mb)] :: mp mb [] 0 :: l) w := h2.new ⟨rfl, rfl, rfl, Nat.le_refl _, fun _ _ _ => rfl⟩ (fun _ => False) (fun _ hx => hx.elim) trivial
  exact (((h3.front 4).front 3).front 4 : St W0 _ w)

theorem get_c {i cb : Nat} {s : M.Cache} {fn : Int} (hi : l[i]? = some (cacheA cb s)) (hb : ∀ e ∈ s.bodies, e.2.length ≤ 4294967296)
    (h : ∀ v', Run W0 (row 51 3 v' (s.get fn).length (insC (s.get fn)) :: l) (K (.tuple #[v', .bool (s.has fn)]))) : Run W0 l (callS P 24 #[Ptr cb, IV fn] K pn) := by
  refine r24 ?_
  unfold S24
  refine run_open i hi fun g => ?_
  refine run_pur 4 rfl fun hg => ?_
  try simp only [pureE, pureT, Nat.zero_add, Nat.reduceAdd, Bool.not_false, Bool.not_true]
  refine run_ld sc89 (cl1 (i := 0) rfl rfl) ?_
  refine run_lookup un89 un3 ty35 (i := 2) rfl ?_
  rw [if_pos rfl]
  try simp only [pureE, pureT, Nat.zero_add, Nat.reduceAdd, Bool.not_false, Bool.not_true]
  have hm := gmget fn g.gs
  have ha := gaget fn g.gs
  rw [hg] at ha
  unfold M.Cache.get M.Cache.has at h
  rw [ha] at h
  have fin : ∀ v' n L, Run W0 (row 51 3 v' n L :: l) (K (.tuple #[v', .bool ((M.aget fn g.gs).map (·.1)).isSome])) → Run W0 (row 51 3 v' n L :: (cachePs cb s g ++ l.eraseIdx i)) (K (.tuple #[v', .bool ((M.aget fn g.gs).map (·.2.1)).isSome])) := by
    intro v' n L h
    refine run_shut1 l i g hi ?_
    rw [show l.set i (obj (cachePs cb s)) = l from row_set_id i hi]
    cases hq : M.aget fn g.gs <;> (rw [hq] at h; exact h)
  rw [hm]
  cases hq : M.aget fn g.gs with
  | none =>
    refine cloneIns_c (n := 0) (xs := []) Rd.nil (by simp) (by omega) fun v' _ => ?_
    rw [hq] at h fin
    exact fin v' _ _ (h v')
  | some x =>
    obtain ⟨j, hj⟩ := M.aget_mem hq
    obtain ⟨L, v, c⟩ := x
    refine run_big_rd 3 j (ps := g.gs.map gRow) rfl (by rw [List.getElem?_map, hj]; rfl) fun hrd => ?_
    have hmem : (fn, L) ∈ s.bodies := by
      rw [← hg]
      exact List.mem_map.2 ⟨_, List.mem_of_getElem? hj, rfl⟩
    refine cloneIns_c (v := v) (n := L.length) (xs := insC L) hrd (flat_one insV_one _) (hb _ hmem) fun v' _ => ?_
    rw [hq] at h fin
    exact fin v' _ _ (h v')

theorem len_c {i cb : Nat} {s : M.Cache} (hi : l[i]? = some (cacheA cb s)) (h : Run W0 l (K (IV s.order.length))) : Run W0 l (callS P 51 #[Ptr cb] K pn) := by
  refine r51 ?_
  unfold S51
  refine run_open i hi fun g => ?_
  refine run_row_rd 1 rfl fun hrd => ?_
  obtain ⟨a, c, hv, _, _, _⟩ := hrd.form
  try simp only [pureE, pureT, Nat.zero_add, Nat.reduceAdd, Bool.not_false, Bool.not_true]
  refine run_ld sc63 (cl1 (i := 0) rfl rfl) ?_
  rw [hv]
  try simp only [pureE, pureT, Nat.zero_add, Nat.reduceAdd, Bool.not_false, Bool.not_true]
  refine run_shut l i g hi ?_
  rw [show l.set i (obj (cachePs cb s)) = l from row_set_id i hi]
  exact h

theorem drop_c {i cb : Nat} {s : M.Cache} {fn : Int} (hi : l[i]? = some (cacheA cb s)) (ho : s.order.length ≤ 4294967296)
    (h : Run W0 (l.set i (cacheA cb (s.drop fn))) (K (.bool (s.has fn)))) : Run W0 l (callS P 27 #[Ptr cb, IV fn] K pn) := by
  refine r27 ?_
  unfold S27
  refine run_open i hi fun g => ?_
  refine run_pur 4 rfl fun hg => ?_
  refine run_box fun b3 => ?_
  refine run_draw (pt b3 3 [IV fn] :: (cachePs cb s g ++ l.eraseIdx i)) (fun w hw => hw) ?_
  try simp only [pureE, pureT, Nat.zero_add, Nat.reduceAdd, Bool.not_false, Bool.not_true]
  refine take_ld sc89 (cl1 (i := 1) rfl rfl) ?_
  refine take_ld sc3 (cl1 (i := 0) rfl rfl) ?_
  refine take_lookup un89 un3 ty35 (i := 3) rfl ?_
  rw [if_pos rfl]
  try simp only [pureE, pureT, Nat.zero_add, Nat.reduceAdd, Bool.not_false, Bool.not_true]
  have hm := gmget fn g.gs
  have ha := gaget fn g.gs
  rw [hg] at ha
  have hhas : s.has fn = (M.aget fn g.gs).isSome := by unfold M.Cache.has; rw [ha]; cases M.aget fn g.gs <;> rfl
  have hhas2 : (mget fn (g.gs.map gEnt)).isSome = s.has fn := by rw [hm, hhas]; cases M.aget fn g.gs <;> rfl
  rw [hhas2]
  cases hq : s.has fn
  · try simp only [pureE, pureT, Nat.zero_add, Nat.reduceAdd, Bool.not_false, Bool.not_true]
    refine run_drop ?_
    refine run_shut l i g hi ?_
    have e : s.drop fn = s := by unfold M.Cache.drop; rw [hq]; rfl
    rw [e, hq] at h
    exact h
  · try simp only [pureE, pureT, Nat.zero_add, Nat.reduceAdd, Bool.not_false, Bool.not_true]
    refine run_draw [pt b3 3 [IV fn], pt cb 91 [IV s.cap, g.ov, .map (some g.mb)]] (fun w hw => ?_) ?_
    · have : St W0 ([pt b3 3 [IV fn], pt cb 91 [IV s.cap, g.ov, .map (some g.mb)]] ++ ((cachePs cb s g).tail ++ l.eraseIdx i)) w := hw
      exact this.drop1
    refine take_ld sc89 (cl1 (i := 1) rfl rfl) ?_
    refine take_ld sc3 (cl1 (i := 0) rfl rfl) ?_
    refine run_delete un89 un3 (i := 3) rfl ?_
    refine run_and (fun w hw => ?_) ?_
    · have : St W0 ([pt b3 3 [IV fn], pt cb 91 [IV s.cap, g.ov, .map (some g.mb)]] ++ (row 3 1 g.ov s.order.length (numC s.order) :: mp g.mb ((mdel fn (g.gs.map gEnt)).map ent) g.clk :: big (g.gs.map gRow) :: pur (g.gs.map gMod = s.bodies) :: l.eraseIdx i)) w := hw
      exact this.drop1
    try simp only [pureE, pureT, Nat.zero_add, Nat.reduceAdd, Bool.not_false, Bool.not_true]
    refine run_ld sc63 (cl1 (i := 1) rfl rfl) ?_
    refine deleteN_c (i := 0) (j := 2) rfl rfl (by omega) ho fun ov' => ?_
    refine run_row_rd 2 rfl fun hrd => ?_
    obtain ⟨a2, c2, hv2, _, _, _⟩ := hrd.form
    subst hv2
    refine run_st ty63 (i := 1) rfl rfl (by simp [Value.cells, Value.oneCell']) (by simp) ?_
    refine run_bigW 4 rfl (sat_adel fn g.gs) ?_
    refine run_setPur 5 ((M.adel fn g.gs).map gMod = (s.drop fn).bodies) rfl ?_ ?_
    · unfold M.Cache.drop; rw [hq, if_pos rfl]; simp only; rw [← hg, gadel]
    refine run_drop ?_
    rw [hq] at h
    refine run_to (cachePs cb (s.drop fn) ⟨.slice a2 (s.order.filter (· != fn)).length c2, g.mb, g.clk, M.adel fn g.gs⟩ ++ l.eraseIdx i) (fun w hw => ?_) (run_shut l i _ hi h)
    have e1 : (s.drop fn).cap = s.cap := by unfold M.Cache.drop; rw [hq]; rfl
    have e2 : (s.drop fn).order = s.order.filter (· != fn) := by unfold M.Cache.drop; rw [hq]; rfl
    unfold cachePs
    rw [e1, e2, ← gmdel]
    exact hw

theorem drop_order (s : M.Cache) (fn : Int) : (s.drop fn).order.length ≤ s.order.length := by
  unfold M.Cache.drop
  split
  · exact List.length_filter_le _ _
  · exact Nat.le_refl _
theorem drop_cap (s : M.Cache) (fn : Int) : (s.drop fn).cap = s.cap := by
  unfold M.Cache.drop
  split <;> rfl

theorem put_k {i cb n : Nat} {s : M.Cache} {fn : Int} {bv : Value} {L : List M.Ins} {r1 r2 : Value} (hi : l[i]? = some (cacheA cb s)) (ho : s.order.length ≤ 4294967295) (hr : Rd W0 (l.eraseIdx i) 3 bv n (insC L)) (hn : n ≤ 4294967296)
    (h : Run W0 (l.set i (cacheA cb { s with order := s.order ++ [fn], bodies := M.aset fn L s.bodies })) (K (.tuple #[r1, r2]))) : Run W0 l (S39_k1 K pn (Ptr cb) (IV fn) bv r1 r2) := by
  unfold S39_k1
  have hl : L.length = n := rd_len insV_len (by omega) hr
  refine run_open i hi fun g => ?_
  refine run_pur 4 rfl fun hg => ?_
  try simp only [pureE, pureT, Nat.zero_add, Nat.reduceAdd, Bool.not_false, Bool.not_true]
  refine run_ld sc63 (cl1 (i := 0) rfl rfl) ?_
  refine run_buildSlice (numV fn) un63 ty3 (by omega) (by omega) (by kernel_rfl) fun b3 => ?_
  refine run_append 2 un63 ty3 rfl rfl (Rd.pt (i := 0) rfl 1 (by simp)) (numV_one fn) (by unfold maxLen; omega) (by omega) (by omega) fun ov' _ => ?_
  refine run_drop ?_
  refine run_row_rd 1 rfl fun hrd => ?_
  obtain ⟨a2, c2, hv2, _, _, _⟩ := hrd.form
  subst hv2
  try simp only [pureE, pureT, Nat.zero_add, Nat.reduceAdd, Bool.not_false, Bool.not_true]
  refine run_st ty63 (i := 0) rfl rfl (by simp [Value.cells, Value.oneCell']) (by simp) ?_
  refine run_to (pt cb 91 [IV s.cap, .slice a2 (s.order.length + 1) c2, .map (some g.mb)] :: row 3 1 (.slice a2 (s.order.length + 1) c2) (s.order.length + 1) (numC s.order ++ numV fn) :: mp g.mb ((g.gs.map gEnt).map ent) g.clk :: big (g.gs.map gRow) :: pur (g.gs.map gMod = s.bodies) :: l.eraseIdx i) (fun w hw => hw) ?_
  refine run_draw [pt cb 91 [IV s.cap, .slice a2 (s.order.length + 1) c2, .map (some g.mb)]] (fun w hw => hw.head) ?_
  try simp only [pureE, pureT, Nat.zero_add, Nat.reduceAdd, Bool.not_false, Bool.not_true]
  refine take_ld sc89 (cl1 (i := 0) rfl rfl) ?_
  refine cloneIns_c (hr.mono fun _ hw => hw.tail.tail.tail.tail.tail) (flat_one insV_one _) hn fun v' _ => ?_
  refine run_and (fun w hw => hw.tail.head) ?_
  refine run_mapUpdate un89 un3 (i := 3) rfl fun clk' => ?_
  refine run_and (fun w hw => hw.tail.head) ?_
  refine run_to (big (row 51 3 v' L.length (insC L) :: g.gs.map gRow) :: pt cb 91 [IV s.cap, .slice a2 (s.order.length + 1) c2, .map (some g.mb)] :: row 3 1 (.slice a2 (s.order.length + 1) c2) (s.order.length + 1) (numC s.order ++ numV fn) :: mp g.mb ((mset fn v' g.clk (g.gs.map gEnt)).map ent) clk' :: pur (g.gs.map gMod = s.bodies) :: l.eraseIdx i) (fun w hw => ?_) ?_
  · rw [hl]
    have h1 : St W0 (row 51 3 v' n (insC L) :: pt cb 91 [IV s.cap, .slice a2 (s.order.length + 1) c2, .map (some g.mb)] :: row 3 1 (.slice a2 (s.order.length + 1) c2) (s.order.length + 1) (numC s.order ++ numV fn) :: mp g.mb ((mset fn v' g.clk (g.gs.map gEnt)).map ent) clk' :: big (g.gs.map gRow) :: pur (g.gs.map gMod = s.bodies) :: l.eraseIdx i) w := hw
    have h2 := (h1.front 4).openB (i := 0) rfl
    have h3 : St W0 (g.gs.map gRow ++ (row 51 3 v' n (insC L) :: pt cb 91 [IV s.cap, .slice a2 (s.order.length + 1) c2, .map (some g.mb)] :: row 3 1 (.slice a2 (s.order.length + 1) c2) (s.order.length + 1) (numC s.order ++ numV fn) :: mp g.mb ((mset fn v' g.clk (g.gs.map gEnt)).map ent) clk' :: pur (g.gs.map gMod = s.bodies) :: l.eraseIdx i)) w := h2
    have h4 := h3.pack (A' := big (g.gs.map gRow)) fun F hs => hs
    have h5 : St W0 (row 51 3 v' n (insC L) :: big (g.gs.map gRow) :: pt cb 91 [IV s.cap, .slice a2 (s.order.length + 1) c2, .map (some g.mb)] :: row 3 1 (.slice a2 (s.order.length + 1) c2) (s.order.length + 1) (numC s.order ++ numV fn) :: mp g.mb ((mset fn v' g.clk (g.gs.map gEnt)).map ent) clk' :: pur (g.gs.map gMod = s.bodies) :: l.eraseIdx i) w := h4.front 1
    obtain ⟨F, hF, F1, F2, g1, g2, g3, g4, G1, G2, k1, k2, k3, k4, k5⟩ := h5.sat
    exact ⟨h5.below, F, hF, fun b => F1 b ∨ G1 b, G2, fun b hb => hb.elim (g1 b) fun hb => g2 b (k1 b hb), fun b hb => g2 b (k2 b hb), fun b hb hq => hb.elim (fun hb => g3 b hb (k2 b hq)) fun hb => k3 b hb hq,
      ⟨F1, G1, fun b hb => .inl hb, fun b hb => .inr hb, fun b hb hq => g3 b hb (k1 b hq), g4, k4⟩, k5⟩
  refine run_bigW 0 rfl (sat_gset fn L v' g.clk g.gs) ?_
  refine run_setPur 4 ((gset fn L v' g.clk g.gs).map gMod = M.aset fn L s.bodies) rfl (by rw [← hg, gaset]) ?_
  refine run_to (cachePs cb { s with order := s.order ++ [fn], bodies := M.aset fn L s.bodies } ⟨.slice a2 (s.order.length + 1) c2, g.mb, clk', gset fn L v' g.clk g.gs⟩ ++ l.eraseIdx i) (fun w hw => ?_) (run_shut l i _ hi h)
  unfold cachePs
  simp only [List.length_append, List.length_singleton, numC, List.flatMap_append, List.flatMap_cons, List.flatMap_nil, List.append_nil]
  rw [← gmset]
  have h1 : St W0 (big ((gset fn L v' g.clk g.gs).map gRow) :: pt cb 91 [IV s.cap, .slice a2 (s.order.length + 1) c2, .map (some g.mb)] :: row 3 1 (.slice a2 (s.order.length + 1) c2) (s.order.length + 1) (numC s.order ++ numV fn) :: mp g.mb ((mset fn v' g.clk (g.gs.map gEnt)).map ent) clk' :: pur ((gset fn L v' g.clk g.gs).map gMod = M.aset fn L s.bodies) :: l.eraseIdx i) w := hw
  exact (((h1.front 3).front 3).front 3 : St W0 _ w)

theorem put_c {i cb n : Nat} {s : M.Cache} {fn : Int} {bv : Value} {L : List M.Ins} (hi : l[i]? = some (cacheA cb s)) (ho : s.order.length ≤ 4294967295) (hcap : 1 ≤ s.cap) (hr : Rd W0 (l.eraseIdx i) 3 bv n (insC L)) (hn : n ≤ 4294967296)
    (h : Run W0 (l.set i (cacheA cb (s.put fn L).2)) (K (.tuple #[IV (s.put fn L).1.1, .bool (s.put fn L).1.2]))) : Run W0 l (callS P 39 #[Ptr cb, IV fn, bv] K pn) := by
  refine r39 ?_
  unfold S39
  let S0 : List As := [aex fun v : Value × Value => pt cb 91 [IV s.cap, v.1, v.2]]
  have toS0 : ∀ (s' : M.Cache), s'.cap = s.cap → ∀ {l' : List As} {j : Nat}, l'[j]? = some (cacheA cb s') → ∀ w, St W0 l' w → St W0 S0 w := by
    intro s' hc l' j hj w hw
    obtain ⟨g, hg⟩ := hw.open_ hj
    have h1 : St W0 (pt cb 91 [IV s'.cap, g.ov, .map (some g.mb)] :: ((cachePs cb s' g).tail ++ l'.eraseIdx j)) w := hg
    rw [hc] at h1
    exact (St.toAex (B := fun v : Value × Value => pt cb 91 [IV s.cap, v.1, v.2]) (x := (g.ov, .map (some g.mb))) h1.head)
  refine run_draw S0 (toS0 s rfl hi) ?_
  refine drop_c hi (by omega) ?_
  have hi2 : (l.set i (cacheA cb (s.drop fn)))[i]? = some (cacheA cb (s.drop fn)) := set_get hi
  refine run_and (toS0 _ (drop_cap s fn) hi2) ?_
  try simp only [pureE, pureT, Nat.zero_add, Nat.reduceAdd, Bool.not_false, Bool.not_true]
  unfold M.Cache.put M.Cache.room M.Cache.full at h
  have ho2 := drop_order s fn
  cases hh : s.has fn
  · rw [hh] at h
    have hd : s.drop fn = s := by unfold M.Cache.drop; rw [hh]; rfl
    rw [hd] at hi2 ⊢
    rw [row_set_id i hi] at hi2 ⊢
    try simp only [pureE, pureT, Nat.zero_add, Nat.reduceAdd, Bool.not_false, Bool.not_true]
    refine take_ld sc3 (Cls.aexPt (f := fun v : Value × Value => [IV s.cap, v.1, v.2]) (o := 0) fun x => rfl) ?_
    refine len_c hi ?_
    refine run_and (toS0 s rfl hi) ?_
    try simp only [pureE, pureT, Nat.zero_add, Nat.reduceAdd, Bool.not_false, Bool.not_true]
    cases hf : (s.order.length : Int) == s.cap
    · rw [hf, hd] at h
      try simp only [pureE, pureT, Nat.zero_add, Nat.reduceAdd, Bool.not_false, Bool.not_true]
      exact put_k hi ho hr hn h
    · rw [hf] at h
      try simp only [pureE, pureT, Nat.zero_add, Nat.reduceAdd, Bool.not_false, Bool.not_true]
      have hlen : (s.order.length : Int) = s.cap := by simpa using hf
      refine run_open i hi fun g => ?_
      refine run_ld sc63 (cl1 (i := 0) rfl rfl) ?_
      refine run_row_rd 1 rfl fun hrd => ?_
      obtain ⟨x, hx⟩ : ∃ x, s.order[0]? = some x := ⟨_, List.getElem?_eq_getElem (by omega)⟩
      have hhd : s.order.headD 0 = x := by
        cases ho' : s.order with
        | nil => rw [ho'] at hx; simp at hx
        | cons y ys => rw [ho'] at hx; simpa using hx
      refine run_rd_idx un63 ty3 numV_len (by omega) hrd 0 hx fun b o hc => ?_
      refine run_ld sc3 hc ?_
      refine run_shut l i g hi ?_
      rw [show l.set i (obj (cachePs cb s)) = l from row_set_id i hi]
      refine drop_c hi (by omega) ?_
      rw [hhd] at h
      have ho3 := drop_order s x
      refine put_k (set_get hi) (by omega) (by rw [erase_set]; exact hr) hn ?_
      rw [List.set_set]
      exact h
  · rw [hh] at h
    try simp only [pureE, pureT, Nat.zero_add, Nat.reduceAdd, Bool.not_false, Bool.not_true]
    refine run_and (toS0 _ (drop_cap s fn) hi2) ?_
    refine put_k hi2 (by omega) (by rw [erase_set]; exact hr) hn ?_
    rw [List.set_set]
    exact h
end
end Go.Proofs.YtkonigmefmgepaaDoor
