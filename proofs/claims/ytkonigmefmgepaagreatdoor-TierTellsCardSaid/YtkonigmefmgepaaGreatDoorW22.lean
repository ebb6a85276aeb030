/- Contracts: what must be in any case (own work). -/
import Derived.Test.YtkonigmefmgepaaGreatDoorW21
namespace Go.Proofs.YtkonigmefmgepaaGreatDoor
open Go.RowKit
set_option linter.unusedVariables false
set_option linter.unusedSimpArgs false

section
variable {W0 : World} {l : List As} {K : Value → C} {pn : Pn}

theorem run_codeRd {i j : Nat} {cv : Value} {gs : List FG} {c : C} (hi : l[i]? = some (row 59 5 cv gs.length (gs.flatMap fnG))) (hj : l[j]? = some (big (gs.map fRow))) (h : CodeRd W0 l cv gs → Run W0 l c) : Run W0 l c := by
  refine run_row_rd i hi fun h1 => ?_
  intro w hw
  refine h ⟨h1, fun e he => ?_⟩ w hw
  have key : ∀ w, St W0 l w → St W0 (gs.map fRow ++ l.eraseIdx j) w := fun w hw => hw.openB hj
  obtain ⟨n, hn, hne⟩ := List.mem_iff_getElem.1 he
  have hj' : (gs.map fRow ++ l.eraseIdx j)[n]? = some (fRow e) := by
    rw [List.getElem?_append_left (by simpa using hn), List.getElem?_map, List.getElem?_eq_getElem hn, hne]; rfl
  obtain ⟨h0, h1⟩ := row_form (key w hw) hj'
  refine ⟨h0, ?_⟩
  rcases h1 with ⟨h1, h2⟩ | ⟨b, cp, h1, h2, h3⟩
  · exact .inl ⟨0, h1, h2⟩
  · refine .inr ⟨_, cp, h1, h2, fun _ => rfl, fun w' hw' => ?_⟩
    have hj2 := hj'
    unfold fRow at hj2
    rw [h1] at hj2
    exact Cls.row hj2 w' (key w' hw')
/-- The pair, laid open. -/
theorem pairO_c (h : ∀ cv gs, fnsOf gs = M.pairM → gs.length = 2 → (∀ e ∈ gs, e.1.l.length ≤ 4) → Run W0 (row 59 5 cv gs.length (gs.flatMap fnG) :: big (gs.map fRow) :: l) (K (.agg #[cv]))) : Run W0 l (callS P 13 #[] K pn) := by
  refine pair_c fun cv => ?_
  refine run_open 0 rfl fun gs => ?_
  refine run_pur 2 rfl fun hp => ?_
  refine run_erase 2 ?_
  have hp' : fnsOf gs = M.pairM := hp
  refine h cv gs hp' ?_ ?_
  · have := congrArg List.length hp
    rw [List.length_map] at this
    exact this
  · intro e he
    have : e.1 ∈ M.pairM := by rw [← hp]; exact List.mem_map_of_mem he
    simp only [M.pairM, List.mem_cons, List.not_mem_nil, or_false] at this
    rcases this with h | h <;> rw [h] <;> decide

theorem shownText : textM 0 [⟨1, 0, 15⟩, ⟨18, 0, 0⟩] = [48, 32, 112, 117, 115, 104, 32, 49, 53, 10, 49, 32, 114, 101, 116, 117, 114, 110, 10] := by
  have h1 : wordsM 0 ⟨1, 0, 15⟩ = [[48], [112, 117, 115, 104], [49, 53]] := by
    have e1 : hasB 1 1 = false := by kernel_rfl
    have e2 : hasB 1 2 = true := by kernel_rfl
    unfold wordsM
    simp only [e1, e2]
    have e3 : Lib.itoa 15 = [49, 53] := by
      unfold Lib.itoa
      rw [if_neg (by omega), show (15 : Int).toNat = 15 from rfl, Lib.decDigits, dif_neg (by omega), Lib.decDigits, dif_pos (by omega)]
      rfl
    have e4 : Lib.itoa ((0 : Nat) : Int) = [48] := by
      unfold Lib.itoa
      rw [if_neg (by omega), show ((0 : Nat) : Int).toNat = 0 from rfl, Lib.decDigits, dif_pos (by omega)]
      rfl
    rw [e3, e4]
    rfl
  have h2 : wordsM 1 ⟨18, 0, 0⟩ = [[49], [114, 101, 116, 117, 114, 110]] := by
    have e1 : hasB 18 1 = false := by kernel_rfl
    have e2 : hasB 18 2 = false := by kernel_rfl
    unfold wordsM
    simp only [e1, e2]
    have e4 : Lib.itoa ((1 : Nat) : Int) = [49] := by
      unfold Lib.itoa
      rw [if_neg (by omega), show ((1 : Nat) : Int).toNat = 1 from rfl, Lib.decDigits, dif_pos (by omega)]
      rfl
    rw [e4]
    rfl
  simp only [textM, lineM, Nat.zero_add]
  rw [h1, h2]
  rfl

def sh0 : M.Mgr := M.newM M.pairM [[], [true]] 2 [0, 2, 0, 9, 3]
def sh1 : M.Mgr := (M.enterM sh0 1 [5]).2
def sh2 : M.Mgr := (M.enterM sh1 1 [5]).2
def sh3 : M.Mgr := (M.enterM sh2 1 [6]).2
def sh4 : M.Mgr := (M.enterM sh3 1 [5]).2
def sh5 : M.Mgr := (M.enterM sh4 1 [5]).2
theorem sh_a : (M.enterM sh0 1 [5]).1 = ([], false, 0) := by kernel_rfl
theorem sh_b : (M.enterM sh1 1 [5]).1 = ([⟨1, 0, 15⟩, ⟨18, 0, 0⟩], true, 8) := by kernel_rfl
theorem sh_c : (M.enterM sh2 1 [6]).1 = ([], false, 50) := by kernel_rfl
theorem sh_d : (M.enterM sh3 1 [5]).1 = ([⟨1, 0, 15⟩, ⟨18, 0, 0⟩], true, 0) := by kernel_rfl
theorem sh_e : (M.enterM sh4 1 [5]).1 = ([], false, 0) := by kernel_rfl
theorem sh_ev : sh5.events = [(1, 1), (2, 1), (3, 1), (2, 1), (4, 1)] := by kernel_rfl
theorem pairM_ok (pub : List (List Bool)) (cap : Int) (picks : List Int) : M.Ok (M.newM M.pairM pub cap picks) := M.Ok.new (by
  intro f hf
  simp only [M.pairM, List.mem_cons, List.not_mem_nil, or_false] at hf
  rcases hf with h | h <;> rw [h] <;> decide) (by decide)
theorem pairM_rng (pub : List (List Bool)) (cap : Int) (picks : List Int) : M.Rng (M.newM M.pairM pub cap picks) := by
  refine ⟨?_, by intro e he; simp [M.newM] at he, ?_⟩
  · intro f hf x hx
    have hf' : f ∈ M.pairM := hf
    simp only [M.pairM, List.mem_cons, List.not_mem_nil, or_false] at hf'
    rcases hf' with h | h <;> rw [h] at hx <;> simp only [List.mem_cons, List.not_mem_nil, or_false] at hx
    · rcases hx with rfl | rfl <;> exact ⟨⟨by decide, by decide⟩, ⟨by decide, by decide⟩, ⟨by decide, by decide⟩⟩
    · rcases hx with rfl | rfl | rfl | rfl <;> exact ⟨⟨by decide, by decide⟩, ⟨by decide, by decide⟩, ⟨by decide, by decide⟩⟩
  · intro p hp i
    have hp' : p ∈ M.newP (M.pairM.map (·.params)) := hp
    simp only [M.newP, List.mem_map] at hp'
    obtain ⟨n, _, rfl⟩ := hp'
    exact M.R0
def pubPair (b : Nat) : List PG := [(.slice none 0 0, []), (.slice (some ⟨b, 0, none⟩) 1 1, [true])]
/-- The call of a manager with one number. -/
theorem enter1_c {i b : Nat} {t : MS} {s : M.Mgr} {fn x : Int} (hi : l[i]? = some (mgrA b t s)) (ok : M.Ok s) (hev : s.events.length ≤ 4294967000)
    (h : ∀ b2 a c, Run W0 (row 69 3 (.slice a (M.enterM s fn [x]).1.1.length c) (M.enterM s fn [x]).1.1.length (insC (M.enterM s fn [x]).1.1) :: pt b2 2 [IV x] :: l.set i (mgrA b t (M.enterM s fn [x]).2))
      (K (.tuple #[.slice a (M.enterM s fn [x]).1.1.length c, .bool (M.enterM s fn [x]).1.2.1, IV (M.enterM s fn [x]).1.2.2]))) :
    Run W0 l (nextS P (V (Instr.buildSlice 26 1 #[(0, IV x)])) (fun v => callS P 9 #[Ptr b, IV fn, v] K pn) pn) := by
  refine run_buildSlice (numV x) un26 ty2 (by omega) (by omega) (by kernel_rfl) fun b2 => ?_
  refine enter_c (i := i + 1) (args := [x]) (m := 1) (by simpa using hi) (Rd.pt (i := 0) rfl 1 (by simp [numV])) ok hev fun v' => ?_
  refine run_row_rd 0 rfl fun hr => ?_
  obtain ⟨a, c, rfl, _, _, _⟩ := hr.form
  refine run_to _ (fun w hw => ?_) (h b2 a c)
  simpa using hw

theorem kq0 : (((0 : Nat) : Int) == 0) = true := rfl
theorem kq1 : ((0 : Int) == 0) = true := rfl
theorem kq8 : ((8 : Int) == 8) = true := rfl
theorem kq50 : ((50 : Int) == 50) = true := rfl
theorem kq2 : (((2 : Nat) : Int) == 2) = true := rfl
theorem kq5 : (((5 : Nat) : Int) == 5) = true := rfl
theorem kqe (a : Int) : (a == a) = true := by simp
theorem kqs (s : ByteArray) : (s.toList == s.toList) = true := by simp
theorem shown_c (g : Glb W0) (h : Run W0 l (K (.bool true))) : Run W0 l (callS P 4 #[] K pn) := by
  refine r4 ?_
  unfold S4
  refine pairO_c fun cv gs hgs hg2 hg4 => ?_
  refine run_buildSlice [.bool true] un56 ty4 (by omega) (by omega) (by kernel_rfl) fun b1 => ?_
  refine run_buildSlice ((pubPair b1).flatMap pV) un25 ty56 (by omega) (by omega) (by kernel_rfl) fun b2 => ?_
  refine run_buildSlice (numC [0, 2, 0, 9, 3]) un26 ty2 (by omega) (by omega) (by kernel_rfl) fun b3 => ?_
  refine run_codeRd (i := 3) (j := 4) rfl rfl fun hcr => ?_
  refine new_c (ps := pubPair b1) (ks := [0, 2, 0, 9, 3]) hcr ⟨Rd.pt (i := 1) rfl 1 rfl, ?_⟩ (by omega) (fun e he => by have := hg4 e he; omega) (Rd.pt (i := 0) rfl 1 rfl) (by simp [pubPair]) ?_ (by decide) fun b t => ?_
  · intro e he
    simp only [pubPair, List.mem_cons, List.not_mem_nil, or_false] at he
    rcases he with rfl | rfl
    · exact Rd.nil
    · exact Rd.pt (i := 2) rfl 1 rfl
  · intro e he
    simp only [pubPair, List.mem_cons, List.not_mem_nil, or_false] at he
    rcases he with rfl | rfl <;> simp
  rw [hgs]
  have hok : M.Ok sh0 := pairM_ok _ _ _
  refine run_to (mgrA b t sh0 :: l) (fun w hw => ?_) ?_
  · have h1 : St W0 (mgrA b t sh0 :: _ :: _ :: _ :: _ :: _ :: l) w := hw
    exact ((((h1.erase 1).erase 1).erase 1).erase 1).erase 1
  refine run_nx (.bool false) (fun w => pv_eqlPN un30) ?_
  try simp only [pureE, pureT, Nat.zero_add, Nat.reduceAdd, Bool.not_false, Bool.not_true]
  refine enter1_c (i := 0) rfl hok (by decide) fun ba a1 c1 => ?_
  rw [sh_a]
  try simp only [pureE, pureT, Nat.zero_add, Nat.reduceAdd, Bool.not_false, Bool.not_true]
  have hok1 : M.Ok sh1 := hok.enter _ _
  refine enter1_c (i := 2) (s := sh1) rfl hok1 (by decide) fun bb a2 c2 => ?_
  rw [sh_b]
  try simp only [pureE, pureT, Nat.zero_add, Nat.reduceAdd, Bool.not_false, Bool.not_true]
  have hok2 : M.Ok sh2 := hok1.enter _ _
  refine enter1_c (i := 4) (s := sh2) rfl hok2 (by decide) fun bc a3 c3 => ?_
  rw [sh_c]
  try simp only [pureE, pureT, Nat.zero_add, Nat.reduceAdd, Bool.not_false, Bool.not_true]
  have hok3 : M.Ok sh3 := hok2.enter _ _
  refine enter1_c (i := 6) (s := sh3) rfl hok3 (by decide) fun bd a4 c4 => ?_
  rw [sh_d]
  try simp only [pureE, pureT, Nat.zero_add, Nat.reduceAdd, Bool.not_false, Bool.not_true]
  have hok4 : M.Ok sh4 := hok3.enter _ _
  refine enter1_c (i := 8) (s := sh4) rfl hok4 (by decide) fun be a5 c5 => ?_
  rw [sh_e]
  try simp only [pureE, pureT, Nat.zero_add, Nat.reduceAdd, Bool.not_false, Bool.not_true]
  refine events_c (i := 10) (s := sh5) rfl (by decide) fun v' => ?_
  rw [sh_ev]
  refine run_row_rd 0 rfl fun hre => ?_
  obtain ⟨ae, ce, rfl, _, _, _⟩ := hre.form
  try simp only [pureE, pureT, Nat.zero_add, Nat.reduceAdd, Bool.not_false, Bool.not_true]
  simp only [List.length_nil, List.length_cons, Nat.zero_add, Nat.reduceAdd]
  simp only [pureE, pureT, Nat.zero_add, Nat.reduceAdd, Bool.not_false, Bool.not_true,  kq0, kq1, kq8, kq50, kq2, kq5]
  refine run_row_rd 7 rfl fun hrt => ?_
  refine text_c g hrt (by decide) (by
    intro x hx
    simp only [List.mem_cons, List.not_mem_nil, or_false] at hx
    rcases hx with rfl | rfl <;> exact ⟨⟨by decide, by decide⟩, ⟨by decide, by decide⟩, ⟨by decide, by decide⟩⟩) ?_
  rw [shownText]
  simp only [pureE, pureT, Nat.zero_add, Nat.reduceAdd, Bool.not_false, Bool.not_true,  kqs, kq0, kq1, kq8, kq50, kq2, kq5]
  refine run_rd_idx un45 ty52 evV_len (by omega) hre 0 rfl fun b10 o10 hc10 => ?_
  refine run_lda ag52 ty52 rfl hc10 ?_
  refine run_nx (.agg #[IV 1, IV 1]) (fun w => by kernel_rfl) ?_
  refine run_nx _ (pv_eqlEv 1 1 1 1) ?_
  simp only [pureE, pureT, Nat.zero_add, Nat.reduceAdd, Bool.not_false, Bool.not_true,  kqe, Bool.and_self]
  refine run_rd_idx un45 ty52 evV_len (by omega) hre 1 rfl fun b11 o11 hc11 => ?_
  try simp only [pureE, pureT, Nat.zero_add, Nat.reduceAdd, Bool.not_false, Bool.not_true]
  refine run_ld sc3 (hc11.fld (k := 0) rfl) ?_
  simp only [pureE, pureT, Nat.zero_add, Nat.reduceAdd, Bool.not_false, Bool.not_true,  kqe, Bool.and_self]
  refine run_rd_idx un45 ty52 evV_len (by omega) hre 2 rfl fun b12 o12 hc12 => ?_
  try simp only [pureE, pureT, Nat.zero_add, Nat.reduceAdd, Bool.not_false, Bool.not_true]
  refine run_ld sc3 (hc12.fld (k := 0) rfl) ?_
  simp only [pureE, pureT, Nat.zero_add, Nat.reduceAdd, Bool.not_false, Bool.not_true,  kqe, Bool.and_self]
  refine run_rd_idx un45 ty52 evV_len (by omega) hre 3 rfl fun b13 o13 hc13 => ?_
  try simp only [pureE, pureT, Nat.zero_add, Nat.reduceAdd, Bool.not_false, Bool.not_true]
  refine run_ld sc3 (hc13.fld (k := 0) rfl) ?_
  simp only [pureE, pureT, Nat.zero_add, Nat.reduceAdd, Bool.not_false, Bool.not_true,  kqe, Bool.and_self]
  refine run_rd_idx un45 ty52 evV_len (by omega) hre 4 rfl fun b14 o14 hc14 => ?_
  try simp only [pureE, pureT, Nat.zero_add, Nat.reduceAdd, Bool.not_false, Bool.not_true]
  refine run_ld sc3 (hc14.fld (k := 0) rfl) ?_
  simp only [pureE, pureT, Nat.zero_add, Nat.reduceAdd, Bool.not_false, Bool.not_true,  kqe, Bool.and_self]
  refine run_to l (fun w hw => ?_) h
  exact hw.tail.tail.tail.tail.tail.tail.tail.tail.tail.tail.tail.tail
end
end Go.Proofs.YtkonigmefmgepaaGreatDoor
