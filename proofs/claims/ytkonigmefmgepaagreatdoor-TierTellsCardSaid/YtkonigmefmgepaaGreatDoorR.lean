/- From what the arguments read as to what the walks ask; and what is said of them behind the call (own work). -/
import Derived.Test.YtkonigmefmgepaaGreatDoorY
import Derived.Deep.Slices
import Derived.SizedLaws
import Derived.Carry
import Derived.ChangeSame
namespace Go.Proofs.YtkonigmefmgepaaGreatDoor
open Go.RowKit Go.Deep Go.ChangeShapes Go.WideShapes
set_option linter.unusedVariables false
set_option linter.unusedSimpArgs false

theorem exists_list {α : Type} {p : Nat → α → Prop} : ∀ n : Nat, (∀ i, i < n → ∃ x, p i x) → ∃ xs : List α, xs.length = n ∧ ∀ (i : Nat) x, xs[i]? = some x → p i x
  | 0, _ => ⟨[], rfl, by simp⟩
  | n + 1, h => by
    obtain ⟨xs, h1, h2⟩ := exists_list n fun i hi => h i (by omega)
    obtain ⟨x, hx⟩ := h n (by omega)
    refine ⟨xs ++ [x], by simp [h1], fun i y hy => ?_⟩
    rcases Nat.lt_or_ge i n with hlt | hge
    · rw [List.getElem?_append_left (by omega)] at hy; exact h2 i y hy
    · rw [List.getElem?_append_right (by omega)] at hy
      have : i = n := by
        have := (List.getElem?_eq_some_iff.1 hy).1
        simp at this; omega
      subst this
      simp [h1] at hy
      subst hy; exact hx
theorem flat_at {α : Type} {f : α → List Value} {sz : Nat} (hf : ∀ x, (f x).length = sz) : ∀ {xs : List α} {j : Nat} {v : Value}, (xs.flatMap f)[j]? = some v → ∃ i r x, xs[i]? = some x ∧ (f x)[r]? = some v ∧ j = i * sz + r ∧ r < sz
  | [], j, v, h => by simp at h
  | x :: xs, j, v, h => by
    rw [List.flatMap_cons] at h
    rcases Nat.lt_or_ge j sz with hlt | hge
    · rw [List.getElem?_append_left (by rw [hf]; exact hlt)] at h
      exact ⟨0, j, x, rfl, h, by omega, hlt⟩
    · rw [List.getElem?_append_right (by rw [hf]; exact hge), hf] at h
      obtain ⟨i, r, y, h1, h2, h3, h4⟩ := flat_at hf h
      exact ⟨i + 1, r, y, by simpa using h1, h2, by rw [Nat.add_mul]; omega, h4⟩
theorem cellsOf_ty {P : Program} {e sz by_ : Nat} {z : Option Value} (hs : tyI P e = some (sz, by_, z)) : P.cellsOf e = sz ∧ P.bytesOf e = by_ := by
  obtain ⟨i, hi, h1, h2, _⟩ := tyI_spec hs
  simp [Program.cellsOf, Program.bytesOf, hi, h1, h2]

section
variable {H : Type} {enc : TypeId × Value → H} {W : World} {fuel : Nat} {cs : List Value} {x : DataW H × List MemPlace}
noncomputable abbrev trodW (enc : TypeId × Value → H) (W : World) (fuel : Nat) (t : TypeId) (cs : List Value) : Option (DataW H × List MemPlace) := DataW.trod enc P W 0 (fun _ => true) true fuel t cs
/-- What is read is not too great. -/
noncomputable def Fits {H : Type} (t : TypeId) (d : DataW H) : Prop := ∀ n ∈ d.weights P t, n ≤ reachBytes

theorem weights_all {e : TypeId} {d : DataW H} : ∀ {ds : List (DataW H)}, d ∈ ds → ∀ n ∈ d.weights P e, n ∈ DataW.weightsAll P e ds
  | [], h, _, _ => by simp at h
  | y :: ds, h, n, hn => by
    simp only [DataW.weightsAll, List.mem_append]
    rcases List.mem_cons.1 h with rfl | h
    · exact .inl hn
    · exact .inr (weights_all h n hn)

theorem rd_slice {t e sz by_ : Nat} {z : Option Value} (ht : P.underlying t = some (.slice e)) (hs : tyI P e = some (sz, by_, z)) (hpos : 0 < sz) {α : Type} (f : α → List Value) (hf : ∀ x, (f x).length = sz) (good : α → Prop)
    (elem : ∀ (fuel : Nat) (cs : List Value) (x : DataW H × List MemPlace), trodW enc W fuel e cs = some x → Fits e x.1 → ∃ a, cs = f a ∧ good a)
    (h : trodW enc W fuel t cs = some x) (hw : Fits t x.1) : ∃ (v : Value) (xs : List α), cs = [v] ∧ Rd W [] sz v xs.length (xs.flatMap f) ∧ (∀ a ∈ xs, good a) ∧ xs.length * by_ ≤ reachBytes := by
  obtain ⟨hce, hbe⟩ := cellsOf_ty hs
  rcases open_slice ht h with ⟨rfl, rfl⟩ | ⟨a, len, cap, m, n, D, Pl, rfl, _, hl, _, hm, rfl, hx⟩
  · exact ⟨_, [], rfl, Rd.nil, by simp, by simp⟩
  · simp only [if_true] at hm
    subst hm
    have hw' : ∀ n ∈ (m * P.bytesOf e) :: (DataW.weightsAll P e ((List.range len).map D) ++ DataW.weightsAll P e ((List.range (m - len)).map fun j => D (len + j))), n ≤ reachBytes := by
      intro n hn
      refine hw n ?_
      simp only [DataW.weights, ht, List.length_map, List.length_range]
      rw [show len + (m - len) = m by omega]
      exact hn
    rw [hce] at hx
    have key : ∀ i, i < len → ∃ a' : α, W.cells? 0 (a.add (i * sz)) sz = some (f a') ∧ good a' := by
      intro i hi
      obtain ⟨cs', h1, h2⟩ := hx i (by omega)
      obtain ⟨a', rfl, hg⟩ := elem _ _ _ h2 (fun k hk => hw' k (by
        refine List.mem_cons_of_mem _ (List.mem_append_left _ ?_)
        exact weights_all (d := D i) (List.mem_map.2 ⟨i, by simpa using hi, rfl⟩) k hk))
      exact ⟨a', h1, hg⟩
    obtain ⟨xs, hxl, hxs⟩ := exists_list len key
    have hcell : ∀ (i : Nat) a', xs[i]? = some a' → ∀ (r : Nat) v, (f a')[r]? = some v → W.cell? (a.add (i * sz + r)) = some v := by
      intro i a' ha' r v hv
      have h1 := (hxs i a' ha').1
      obtain ⟨_, hlen, hc⟩ := World.cells?_some h1
      have hr : r < sz := by
        have := (List.getElem?_eq_some_iff.1 hv).1
        rw [hf] at this; exact this
      have := hc r hr
      rw [add_add, hv] at this
      exact this
    refine ⟨_, xs, rfl, ⟨by rw [flat_len hf], .inr ⟨a, m, by rw [hxl], by omega, fun h0 => ?_, ?_⟩⟩, fun a' ha' => ?_, ?_⟩
    · obtain ⟨a', ha'⟩ : ∃ a', xs[0]? = some a' := ⟨_, List.getElem?_eq_getElem h0⟩
      obtain ⟨v, hv⟩ : ∃ v, (f a')[0]? = some v := ⟨_, List.getElem?_eq_getElem (by rw [hf]; exact hpos)⟩
      have := hcell 0 a' ha' 0 v hv
      simp only [Nat.zero_mul, Nat.add_zero, Addr.add, if_true] at this
      unfold World.cell? at this
      split at this
      · split at this
        · simp at this
        · rename_i hsp
          cases hq : a.spot with
          | none => rfl
          | some s => rw [hq] at hsp; simp at hsp
      · simp at this
    · intro w hw j v hj
      obtain ⟨i, r, a', h1, h2, rfl, _⟩ := flat_at hf hj
      have h3 := hcell i a' h1 r v h2
      have hb : (a.add (i * sz + r)).block < W.heap.size := by
        unfold World.cell? at h3
        rcases Nat.lt_or_ge (a.add (i * sz + r)).block W.heap.size with h | h
        · exact h
        · rw [Array.getElem?_eq_none h] at h3; simp at h3
      unfold World.cell? at h3 ⊢
      rw [hw.below.block _ hb]
      exact h3
    · obtain ⟨i, hi, hie⟩ := List.mem_iff_getElem.1 ha'
      exact (hxs i a' (by rw [List.getElem?_eq_getElem hi, hie])).2
    · have := hw' (m * P.bytesOf e) (by simp)
      rw [hbe] at this
      have h2 : xs.length * by_ ≤ m * by_ := Nat.mul_le_mul_right _ (by omega)
      omega

/-- A struct, its fields by type and place. -/
theorem rd_struct {t : TypeId} {fs : Array Field} (tos : List (TypeId × Nat)) (ht : P.underlying t = some (.struct fs)) (hfs : fs.toList.map (fun f => (f.type, f.offset)) = tos) (h : trodW enc W fuel t cs = some x) (hw : Fits t x.1) :
    cs.length = P.cellsOf t ∧ ∀ (i : Nat) (T o : Nat), tos[i]? = some (T, o) → ∃ n y, trodW enc W n T ((cs.drop o).take (P.cellsOf T)) = some y ∧ Fits T y.1 := by
  obtain ⟨xs, n, rfl, rfl, hl, hsz, hf⟩ := DataW.trod_struct ht h
  refine ⟨hl, fun i T o hi => ?_⟩
  rw [← hfs, List.getElem?_map] at hi
  obtain ⟨f, hfi, he⟩ := Option.map_eq_some_iff.1 hi
  simp only [Prod.mk.injEq] at he
  obtain ⟨rfl, rfl⟩ := he
  have hfi' : fs[i]? = some f := by simpa using hfi
  have h1 := hf i f hfi'
  have hlt : i < xs.length := by rw [hsz]; exact (Array.getElem?_eq_some_iff.1 hfi').1
  rw [List.getElem?_eq_getElem hlt] at h1
  refine ⟨n, _, h1, fun k hk => hw k ?_⟩
  simp only [DataW.weights, ht]
  refine DataW.weights_mem_each (j := i) (t := f.type) (d := (xs[i]).1) ?_ ?_ k hk
  · rw [List.getElem?_map, hfi]; rfl
  · rw [List.getElem?_map, List.getElem?_eq_getElem hlt]; rfl
theorem len_one {cs : List Value} (h : cs.length = 1) : ∃ a, cs = [a] := by
  match cs, h with
  | [a], _ => exact ⟨a, rfl⟩
theorem len_three {cs : List Value} (h : cs.length = 3) : ∃ a b c, cs = [a, b, c] := by
  match cs, h with
  | [a, b, c], _ => exact ⟨a, b, c, rfl⟩
theorem len_five {cs : List Value} (h : cs.length = 5) : ∃ a b c d e, cs = [a, b, c, d, e] := by
  match cs, h with
  | [a, b, c, d, e], _ => exact ⟨a, b, c, d, e, rfl⟩
theorem R_wf {n : Int} (h : (Lit.int .i64 n).wf = true) : M.R n := by
  simp only [Lit.wf, Bool.and_eq_true, decide_eq_true_eq] at h
  have h1 : IntKind.i64.min = -9223372036854775808 := rfl
  have h2 : IntKind.i64.max = 9223372036854775807 := rfl
  unfold M.R
  rw [h1, h2] at h
  omega

theorem rd_num {T : TypeId} (hT : P.underlying T = some (.int .i64)) (h : trodW enc W fuel T cs = some x) (_ : Fits T x.1) : ∃ n : Int, cs = numV n ∧ M.R n := by
  obtain ⟨n, rfl, _, hw⟩ := DataW.trod_int hT h
  exact ⟨n, rfl, R_wf hw⟩
theorem rd_bool (h : trodW enc W fuel 4 cs = some x) (_ : Fits 4 x.1) : ∃ b : Bool, cs = bV b ∧ True := by
  obtain ⟨b, rfl, _⟩ := DataW.trod_bool un4 h
  exact ⟨b, rfl, trivial⟩
noncomputable def fs_ (t : TypeId) : Array Field := match P.underlying t with
  | some (.struct fs) => fs
  | _ => #[]
theorem st69 : P.underlying 69 = some (.struct (fs_ 69)) := by kernel_rfl
theorem so69 : (fs_ 69).toList.map (fun f => (f.type, f.offset)) = [(3, 0), (3, 1), (2, 2)] := by kernel_rfl
theorem rd_ins (h : trodW enc W fuel 69 cs = some x) (hw : Fits 69 x.1) : ∃ a : M.Ins, cs = insV a ∧ M.RI a := by
  obtain ⟨hl, hf⟩ := rd_struct _ st69 so69 h hw
  rw [show P.cellsOf 69 = 3 from (cellsOf_ty ty69).1] at hl
  obtain ⟨c0, c1, c2, rfl⟩ := len_three hl
  obtain ⟨n0, y0, h0, w0⟩ := hf 0 3 0 rfl
  obtain ⟨n1, y1, h1, w1⟩ := hf 1 3 1 rfl
  obtain ⟨n2, y2, h2, w2⟩ := hf 2 2 2 rfl
  rw [(cellsOf_ty ty3).1] at h0 h1
  rw [(cellsOf_ty ty2).1] at h2
  obtain ⟨a, ha, ra⟩ := rd_num un3 h0 w0
  obtain ⟨b, hb, rb⟩ := rd_num un3 h1 w1
  obtain ⟨c, hc, rc⟩ := rd_num un2 h2 w2
  simp [numV] at ha hb hc
  subst ha; subst hb; subst hc
  exact ⟨⟨a, b, c⟩, rfl, ra, rb, rc⟩
theorem st59 : P.underlying 59 = some (.struct (fs_ 59)) := by kernel_rfl
theorem so59 : (fs_ 59).toList.map (fun f => (f.type, f.offset)) = [(9, 0), (3, 1), (3, 2), (3, 3), (36, 4)] := by kernel_rfl
/-- A function as it is read. -/
def GoodFn (W : World) (e : FG) : Prop := Rd W [] 3 e.2 e.1.l.length (insC e.1.l) ∧ (∀ x ∈ e.1.l, M.RI x) ∧ M.R e.1.params
theorem rd_fn (h : trodW enc W fuel 59 cs = some x) (hw : Fits 59 x.1) : ∃ e : FG, cs = fnG e ∧ GoodFn W e := by
  obtain ⟨hl, hf⟩ := rd_struct _ st59 so59 h hw
  rw [show P.cellsOf 59 = 5 from (cellsOf_ty ty59).1] at hl
  obtain ⟨c0, c1, c2, c3, c4, rfl⟩ := len_five hl
  obtain ⟨n0, y0, h0, w0⟩ := hf 0 9 0 rfl
  obtain ⟨n1, y1, h1, w1⟩ := hf 1 3 1 rfl
  obtain ⟨n2, y2, h2, w2⟩ := hf 2 3 2 rfl
  obtain ⟨n3, y3, h3, w3⟩ := hf 3 3 3 rfl
  obtain ⟨n4, y4, h4, w4⟩ := hf 4 36 4 rfl
  rw [(cellsOf_ty ty3).1] at h1 h2 h3
  rw [(cellsOf_ty ty9).1] at h0
  rw [(cellsOf_ty ty36).1] at h4
  obtain ⟨s, hs, _⟩ := DataW.trod_string un9 h0
  obtain ⟨b, hb, rb⟩ := rd_num un3 h1 w1
  obtain ⟨c, hc, rc⟩ := rd_num un3 h2 w2
  obtain ⟨d, hd, rd⟩ := rd_num un3 h3 w3
  obtain ⟨v, xs, hv, hrd, hgood, _⟩ := rd_slice un36 ty69 (by omega) insV insV_len M.RI (fun _ _ _ h hw => rd_ins h hw) h4 w4
  simp [numV] at hs hb hc hd hv
  subst hs; subst hb; subst hc; subst hd; subst hv
  exact ⟨(⟨s, b, c, d, xs⟩, c4), rfl, hrd, hgood, rb⟩
theorem st24 : P.underlying 24 = some (.struct (fs_ 24)) := by kernel_rfl
theorem so24 : (fs_ 24).toList.map (fun f => (f.type, f.offset)) = [(22, 0)] := by kernel_rfl
theorem rd_code (h : trodW enc W fuel 24 cs = some x) (hw : Fits 24 x.1) : ∃ (cv : Value) (gs : List FG), cs = [cv] ∧ CodeRd W [] cv gs ∧ ∀ e ∈ gs, GoodFn W e := by
  obtain ⟨hl, hf⟩ := rd_struct _ st24 so24 h hw
  rw [show P.cellsOf 24 = 1 from (cellsOf_ty ty24).1] at hl
  obtain ⟨c0, rfl⟩ := len_one hl
  obtain ⟨n0, y0, h0, w0⟩ := hf 0 22 0 rfl
  rw [(cellsOf_ty ty22).1] at h0
  obtain ⟨v, xs, hv, hrd, hgood, _⟩ := rd_slice un22 ty59 (by omega) fnG fnG_len (GoodFn W) (fun _ _ _ h hw => rd_fn h hw) h0 w0
  simp at hv
  subst hv
  exact ⟨c0, xs, rfl, ⟨hrd, fun e he => (hgood e he).1⟩, hgood⟩
theorem rd_pub (h : trodW enc W fuel 25 cs = some x) (hw : Fits 25 x.1) : ∃ (pv : Value) (ps : List PG), cs = [pv] ∧ PubRd W [] pv ps ∧ (∀ e ∈ ps, e.2.length ≤ 140737488355328) ∧ ps.length * 24 ≤ 140737488355328 := by
  have hrb : reachBytes ≤ 140737488355328 := by decide
  obtain ⟨v, xs, hv, hrd, hgood, hsz⟩ := rd_slice un25 ty56 (by omega) pV pV_len (fun e : PG => Rd W [] 1 e.1 e.2.length (e.2.flatMap bV) ∧ e.2.length ≤ 140737488355328) (fun _ _ _ h hw => by
    obtain ⟨v, xs, hv, hrd, _, hsz⟩ := rd_slice un56 ty4 (by omega) bV bV_len (fun _ => True) (fun _ _ _ h hw => rd_bool h hw) h hw
    exact ⟨(v, xs), hv, hrd, by simp only; omega⟩) h hw
  exact ⟨v, xs, hv, ⟨hrd, fun e he => (hgood e he).1⟩, fun e he => (hgood e he).2, by omega⟩
theorem rd_nums (h : trodW enc W fuel 26 cs = some x) (hw : Fits 26 x.1) : ∃ (kv : Value) (ks : List Int), cs = [kv] ∧ Rd W [] 1 kv ks.length (numC ks) ∧ ∀ n ∈ ks, M.R n := by
  obtain ⟨v, xs, hv, hrd, hgood, hsz⟩ := rd_slice un26 ty2 (by omega) numV numV_len M.R (fun _ _ _ h hw => rd_num un2 h hw) h hw
  exact ⟨v, xs, hv, hrd, hgood⟩
theorem st40 : P.underlying 40 = some (.struct (fs_ 40)) := by kernel_rfl
theorem so40 : (fs_ 40).toList.map (fun f => (f.type, f.offset)) = [(3, 0), (26, 1), (26, 2)] := by kernel_rfl
theorem rd_asks (h : trodW enc W fuel 27 cs = some x) (hw : Fits 27 x.1) : ∃ (lv : Value) (qs : List Ask), cs = [lv] ∧ AskRd W lv qs := by
  obtain ⟨v, xs, hv, hrd, hgood, hsz⟩ := rd_slice un27 ty40 (by omega) askC askC_len (fun a : Ask => Rd W [] 1 a.av a.args.length (numC a.args) ∧ Rd W [] 1 a.ov a.other.length (numC a.other) ∧ (∀ x ∈ a.args, M.R x) ∧ ∀ x ∈ a.other, M.R x) (fun _ cs _ h hw => by
    obtain ⟨hl, hf⟩ := rd_struct _ st40 so40 h hw
    rw [show P.cellsOf 40 = 3 from (cellsOf_ty ty40).1] at hl
    obtain ⟨c0, c1, c2, rfl⟩ := len_three hl
    obtain ⟨n0, y0, h0, w0⟩ := hf 0 3 0 rfl
    obtain ⟨n1, y1, h1, w1⟩ := hf 1 26 1 rfl
    obtain ⟨n2, y2, h2, w2⟩ := hf 2 26 2 rfl
    rw [(cellsOf_ty ty3).1] at h0
    rw [(cellsOf_ty ty26).1] at h1 h2
    obtain ⟨a, ha, ra⟩ := rd_num un3 h0 w0
    obtain ⟨v1, k1, hv1, hr1, hg1⟩ := rd_nums h1 w1
    obtain ⟨v2, k2, hv2, hr2, hg2⟩ := rd_nums h2 w2
    simp [numV] at ha hv1 hv2
    subst ha; subst hv1; subst hv2
    exact ⟨⟨a, c1, k1, c2, k2⟩, rfl, hr1, hr2, hg1, hg2⟩) h hw
  exact ⟨v, xs, hv, ⟨hrd, fun a ha => (hgood a ha).1, fun a ha => (hgood a ha).2.1, fun a ha => (hgood a ha).2.2.1, fun a ha => (hgood a ha).2.2.2⟩⟩

/-! ### Behind the call -/
theorem laidOut : laidOutB P = true := by kernel_rfl
theorem below_all {W' : World} (hb : Below W.heap.size W W') : ∀ {ts : List TypeId} {vs : List Value} {ds : List (DataW H)} {ps : List MemPlace}, (∀ t ∈ ts, P.readableRec t = true ∧ t < P.types.size) →
    DataW.TrodAll enc P W 0 (fun _ => true) true ts vs ds ps → (∀ x ∈ ps, x.block < W.heap.size) → DataW.TrodAll enc P W' 0 (fun b => decide (b < W.heap.size)) true ts vs ds ps
  | [], vs, ds, ps, _, h, _ => by
    obtain ⟨rfl, rfl, rfl⟩ := trodAll_nil h
    exact rfl
  | t :: ts, vs, ds, ps, ht, h, hp => by
    obtain ⟨v, vs1, d, ds1, a, b, rfl, rfl, rfl, h1, h2⟩ := trodAll_cons h
    obtain ⟨r1, r2⟩ := ht t (by simp)
    exact ⟨a, b, Below.trod laidOut r1 r2 h1 hb fun x hx => hp x (List.mem_append_left _ hx), below_all hb (fun t ht' => ht t (by simp [ht'])) h2 fun x hx => hp x (List.mem_append_right _ hx), rfl⟩
/-- A law that said true, and left all as it was. -/
theorem law_post {f : Func} {s : ChangeSpec} {W' : World} {args : Array Value} {ds gs : List (DataW H)} {before : List MemPlace} (hv : s.vars = []) (hts : ∀ t ∈ f.params.toList, P.readableRec t = true ∧ t < P.types.size) (hres : f.resultTypes = #[4])
    (hfn : s.fn H (ds ++ gs) = { results := [.lit (.bool true)], args := ds }) (hW : DataW.Whole enc P f.params.toList s.vars false W args.toList ds gs before) (hb : Below W.heap.size W W') :
    s.post enc P f false true false false W args (.bool true) W' := by
  have hW' := hW
  obtain ⟨p, q, hA, hV, rfl, hfz, hnd⟩ := hW
  rw [hv] at hV
  obtain ⟨rfl, rfl⟩ : gs = [] ∧ q = [] := by
    cases gs with
    | nil => exact ⟨rfl, hV⟩
    | cons g r => exact absurd hV (by intro h; cases h)
  have hlt : ∀ x ∈ p, x.block < W.heap.size := fun x hx => hW'.lt x (List.mem_append_left _ hx)
  refine ⟨ds, [], p ++ [], [], p, [], hW', ?_, ?_, ?_, Below.frame hb _, fun h => by cases h⟩
  · rw [hfn, hres]
    exact trodAll_mk1 (shut_bool un4 true)
  · rw [hfn]
    exact below_all hb hts hA hlt
  · rw [hfn, hv]
    exact rfl
end
end Go.Proofs.YtkonigmefmgepaaGreatDoor
