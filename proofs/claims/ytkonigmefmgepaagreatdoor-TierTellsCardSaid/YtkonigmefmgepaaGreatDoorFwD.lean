/- Maps with whole numbers for keys, channels with room, slices that are made, copied, cut, cleared (own work). -/
import Derived.Test.YtkonigmefmgepaaGreatDoorFwC
namespace Go.Proofs.YtkonigmefmgepaaGreatDoor
open Go.RowKit
set_option linter.unusedVariables false

/-! ### Maps: int keys -/
abbrev Ent := Int × Value × Nat
def ent (p : Ent) : MapEntry := ⟨.int .i64 p.1, p.2.1, p.2.2⟩
def lookFrom (k : Int) : List Ent → Nat → Option (Nat × Value)
  | [], _ => none
  | e :: es, n => if k = e.1 then some (n, e.2.1) else lookFrom k es (n + 1)
def mget (k : Int) : List Ent → Option Value
  | [] => none
  | e :: es => if k = e.1 then some e.2.1 else mget k es
def mset (k : Int) (v : Value) (c : Nat) : List Ent → List Ent
  | [] => [(k, v, c)]
  | e :: es => if k = e.1 then (k, v, e.2.2) :: es else e :: mset k v c es
def mdel (k : Int) : List Ent → List Ent
  | [] => []
  | e :: es => if k = e.1 then es else e :: mdel k es

theorem mget_look (k : Int) : ∀ (es : List Ent) (n : Nat), mget k es = (lookFrom k es n).map (·.2)
  | [], _ => rfl
  | e :: es, n => by
    simp only [mget, lookFrom]
    split
    · rfl
    · exact mget_look k es (n + 1)
theorem findNow_ent (K : IntKind) (k : Int) : ∀ (es : List Ent) (n : Nat), Instr.findNow (.int K) (.int .i64 k) (es.map ent) n = some (lookFrom k es n)
  | [], _ => rfl
  | e :: es, n => by
    simp only [List.map_cons, Instr.findNow, ent, Instr.sameNow, if_true, lookFrom]
    by_cases h : k = e.1
    · simp [h]
    · have hb : (k == e.1) = false := by simpa using h
      simp only [hb, if_neg h]
      exact findNow_ent K k es (n + 1)
theorem look_ge {k : Int} : ∀ {es : List Ent} {n i : Nat} {v : Value}, lookFrom k es n = some (i, v) → n ≤ i
  | [], n, i, v, h => by simp [lookFrom] at h
  | e :: es, n, i, v, h => by
    simp only [lookFrom] at h
    split at h
    · simp at h; omega
    · have := look_ge h; omega
theorem look_set {k : Int} {v : Value} {c : Nat} : ∀ {es : List Ent} {n i : Nat} {u : Value}, lookFrom k es n = some (i, u) →
    (es.map ent).modify (i - n) (fun e => { e with key := .int .i64 k, val := v }) = (mset k v c es).map ent
  | [], n, i, u, h => by simp [lookFrom] at h
  | e :: es, n, i, u, h => by
    simp only [lookFrom] at h
    by_cases hk : k = e.1
    · simp only [if_pos hk, Option.some.injEq, Prod.mk.injEq] at h
      obtain ⟨rfl, _⟩ := h
      simp [mset, hk, ent]
    · simp only [if_neg hk] at h
      have hge := look_ge h
      have ih := look_set (v := v) (c := c) h
      have e1 : i - n = (i - (n + 1)) + 1 := by omega
      rw [e1]
      simp only [List.map_cons, List.modify_succ_cons, mset, if_neg hk, ih]
theorem look_none {k : Int} {v : Value} {c : Nat} : ∀ {es : List Ent} {n : Nat}, lookFrom k es n = none → mset k v c es = es ++ [(k, v, c)]
  | [], n, _ => rfl
  | e :: es, n, h => by
    simp only [lookFrom] at h
    by_cases hk : k = e.1
    · simp [hk] at h
    · simp only [if_neg hk] at h
      simp [mset, if_neg hk, look_none h]
theorem look_del {k : Int} : ∀ {es : List Ent} {n i : Nat} {u : Value}, lookFrom k es n = some (i, u) → (es.map ent).eraseIdx (i - n) = (mdel k es).map ent
  | [], n, i, u, h => by simp [lookFrom] at h
  | e :: es, n, i, u, h => by
    simp only [lookFrom] at h
    by_cases hk : k = e.1
    · simp only [if_pos hk, Option.some.injEq, Prod.mk.injEq] at h
      obtain ⟨rfl, _⟩ := h
      simp [mdel, hk]
    · simp only [if_neg hk] at h
      have hge := look_ge h
      have ih := look_del h
      have e1 : i - n = (i - (n + 1)) + 1 := by omega
      rw [e1]
      simp only [List.map_cons, List.eraseIdx_cons_succ, mdel, if_neg hk, ih]
theorem look_del_none {k : Int} : ∀ {es : List Ent} {n : Nat}, lookFrom k es n = none → mdel k es = es
  | [], n, _ => rfl
  | e :: es, n, h => by
    simp only [lookFrom] at h
    by_cases hk : k = e.1
    · simp [hk] at h
    · simp only [if_neg hk] at h
      simp [mdel, if_neg hk, look_del_none h]

section
variable {W0 : World} {l : List As} {w : World} {P : Program} {K : Value → C} {pn : Pn}

theorem checkKey_int {kt : TypeId} {IK : IntKind} (hk : P.underlying kt = some (.int IK)) (e : Bool) (v : Value) (w : World) : (Instr.checkKey e 10000 kt v).run P w = .ok () w := by
  rw [show (10000 : Nat) = 9999 + 1 from rfl]
  unfold Instr.checkKey
  simp [run_underlying hk]
theorem findKey_int {kt : TypeId} {IK : IntKind} (hk : P.underlying kt = some (.int IK)) (k : Int) (es : List Ent) (w : World) :
    (Instr.findKey kt (.int .i64 k) (es.map ent)).run P w = .ok (lookFrom k es 0) w := by
  simp [Instr.findKey, run_underlying hk, findNow_ent]
theorem run_getObj {b : Nat} {o : Obj} (h : w.heap[b]? = some o) (hc : ∀ c T f, o ≠ .cells c T f) : (getObj b).run P w = .ok o w := by
  cases o <;> simp_all [getObj, Sem.run]
theorem run_setObj {b : Nat} {o o' : Obj} (h : w.heap[b]? = some o) (hc : ∀ c T f, o ≠ .cells c T f) : (setObj b o').run P w = .ok () { w with heap := w.heap.setIfInBounds b o' } := by
  cases o <;> simp_all [setObj, Sem.run]

theorem lookup_run {mt kt et : TypeId} {IK : IntKind} {sz by_ : Nat} {z : Value} (hm : P.underlying mt = some (.map kt et)) (hk : P.underlying kt = some (.int IK)) (hz : tyI P et = some (sz, by_, some z)) {b clk : Nat} {es : List Ent} {k : Int} {ok : Bool}
    (h : w.heap[b]? = some (.map (es.map ent).toArray clk)) :
    (V (Instr.lookup mt (.map (some b)) (.int .i64 k) ok)).run P w = .ok (.value (if ok then .tuple #[(mget k es).getD z, .bool (mget k es).isSome] else (mget k es).getD z)) w := by
  obtain ⟨i, hi, _, _, he⟩ := tyI_spec hz
  have hg := run_getObj (P := P) h (by simp)
  have hf := findKey_int (P := P) hk k es w
  have hl := mget_look k es 0
  simp only [V, Instr.lookup, Sem.run_bind, run_underlying hm, Result.andThen_ok, hg, checkKey_int hk]
  cases hq : lookFrom k es 0 with
  | none => rw [hq] at hl hf; simp [hl, hf, zeroValue, typeInfo, hi, he]
  | some p => obtain ⟨j, u⟩ := p; rw [hq] at hl hf; simp [hl, hf]

theorem run_lookup {mt kt et : TypeId} {IK : IntKind} {sz by_ : Nat} {z : Value} (hm : P.underlying mt = some (.map kt et)) (hk : P.underlying kt = some (.int IK)) (hz : tyI P et = some (sz, by_, some z)) {i b clk : Nat} {es : List Ent} {k : Int} {ok : Bool}
    (hi : l[i]? = some (mp b (es.map ent) clk)) (h : Run W0 l (K (if ok then .tuple #[(mget k es).getD z, .bool (mget k es).isSome] else (mget k es).getD z))) :
    Run W0 l (nextS P (V (Instr.lookup mt (.map (some b)) (.int .i64 k) ok)) K pn) := run_val _ (fun w hw => lookup_run hm hk hz (hw.mp hi)) h
theorem take_lookup {l0 : List As} {mt kt et : TypeId} {IK : IntKind} {sz by_ : Nat} {z : Value} (hm : P.underlying mt = some (.map kt et)) (hk : P.underlying kt = some (.int IK)) (hz : tyI P et = some (sz, by_, some z)) {i b clk : Nat} {es : List Ent} {k : Int} {ok : Bool}
    (hi : l0[i]? = some (mp b (es.map ent) clk)) (h : Run W0 l (K (if ok then .tuple #[(mget k es).getD z, .bool (mget k es).isSome] else (mget k es).getD z))) :
    Run W0 l (takeS (St W0 l0) P (V (Instr.lookup mt (.map (some b)) (.int .i64 k) ok)) K) := run_take _ (fun w hw => lookup_run hm hk hz (hw.mp hi)) h

theorem setObj_grown (w : World) (b : Nat) (o : Obj) : let w' : World := { w with heap := w.heap.setIfInBounds b o }; w'.os = w.os ∧ w'.tape = w.tape ∧ w'.output = w.output ∧ w.heap.size ≤ w'.heap.size :=
  ⟨rfl, rfl, rfl, by simp⟩
theorem heap_setObj {b : Nat} {o o' : Obj} (h : w.heap[b]? = some o) : ({ w with heap := w.heap.setIfInBounds b o' } : World).heap[b]? = some o' := by
  have hlt : b < w.heap.size := (Array.getElem?_eq_some_iff.1 h).1
  simp [hlt]
theorem heap_setObj_ne {b x : Nat} {o' : Obj} (h : x ≠ b) : ({ w with heap := w.heap.setIfInBounds b o' } : World).heap[x]? = w.heap[x]? := by
  simp [Array.getElem?_setIfInBounds_ne (Ne.symm h)]
theorem St.setMp (h : St W0 l w) {i b : Nat} {es : List MapEntry} {clk : Nat} (hi : l[i]? = some (Proofs.YtkonigmefmgepaaGreatDoor.mp b es clk)) (es' : List MapEntry) (clk' : Nat) :
    St W0 (l.set i (Proofs.YtkonigmefmgepaaGreatDoor.mp b es' clk')) { w with heap := w.heap.setIfInBounds b (.map es'.toArray clk') } :=
  h.upd hi (.inr (setObj_grown w b _)) fun F hF ⟨h1, h2, h3⟩ => ⟨fun x hx hn => heap_setObj_ne (fun e => hn (e ▸ h1)), F, fun x hx => .inl hx, h1, h2, heap_setObj h3⟩
theorem St.setCh (h : St W0 l w) {i b cap : Nat} {buf : List Value} {s r : Nat} (hi : l[i]? = some (Proofs.YtkonigmefmgepaaGreatDoor.ch b cap buf s r)) (buf' : List Value) (s' r' : Nat) :
    St W0 (l.set i (Proofs.YtkonigmefmgepaaGreatDoor.ch b cap buf' s' r')) { w with heap := w.heap.setIfInBounds b (.chan cap buf'.toArray false s' r' false) } :=
  h.upd hi (.inr (setObj_grown w b _)) fun F hF ⟨h1, h2, h3⟩ => ⟨fun x hx hn => heap_setObj_ne (fun e => hn (e ▸ h1)), F, fun x hx => .inl hx, h1, h2, heap_setObj h3⟩

theorem run_mapUpdate {mt kt et : TypeId} {IK : IntKind} (hm : P.underlying mt = some (.map kt et)) (hk : P.underlying kt = some (.int IK)) {i b clk : Nat} {es : List Ent} {k : Int} {v : Value}
    (hi : l[i]? = some (mp b (es.map ent) clk)) (h : ∀ clk', Run W0 (l.set i (mp b ((mset k v clk es).map ent) clk')) (K undef)) :
    Run W0 l (nextS P (U (Instr.mapUpdate mt (.map (some b)) (.int .i64 k) v)) K pn) := by
  refine run_skip fun w hw => ?_
  have hb := hw.mp hi
  have hg := run_getObj (P := P) hb (by simp)
  have hf := findKey_int (P := P) hk k es w
  cases hq : lookFrom k es 0 with
  | none =>
    refine ⟨_, _, ?_, hw.setMp hi _ (clk + 1), h _⟩
    rw [hq] at hf
    have hs := run_setObj (P := P) (o' := .map ((mset k v clk es).map ent).toArray (clk + 1)) hb (by simp)
    simp only [U, Instr.mapUpdate, Sem.run_bind, run_underlying hm, Result.andThen_ok, hg, checkKey_int hk, hf]
    have e1 : (es.map ent).toArray.push { key := .int .i64 k, val := v, born := clk } = ((mset k v clk es).map ent).toArray := by
      rw [look_none hq]; simp [ent]
    rw [e1, hs]; rfl
  | some p =>
    obtain ⟨j, u⟩ := p
    refine ⟨_, _, ?_, hw.setMp hi _ clk, h _⟩
    rw [hq] at hf
    have hs := run_setObj (P := P) (o' := .map ((mset k v clk es).map ent).toArray clk) hb (by simp)
    simp only [U, Instr.mapUpdate, Sem.run_bind, run_underlying hm, Result.andThen_ok, hg, checkKey_int hk, hf]
    have hkey : (Instr.keyThatStays ((((es.map ent).toArray[j]?).map (·.key)).getD (.int .i64 k)) (.int .i64 k)).run P w = .ok (.int .i64 k) w := by
      have hl : ∀ (es : List Ent) (n j : Nat) (u : Value), lookFrom k es n = some (j, u) → (((es.map ent)[j - n]?).map (·.key)).getD (.int .i64 k) = .int .i64 k := by
        intro es
        induction es with
        | nil => intro n j u h; simp [lookFrom] at h
        | cons e es ih =>
          intro n j u h
          simp only [lookFrom] at h
          by_cases hke : k = e.1
          · simp only [if_pos hke, Option.some.injEq, Prod.mk.injEq] at h
            obtain ⟨rfl, _⟩ := h
            simp [ent, hke]
          · simp only [if_neg hke] at h
            have hge := look_ge h
            have := ih _ _ _ h
            rw [show j - n = (j - (n + 1)) + 1 by omega]
            simpa using this
      have := hl es 0 j u hq
      simp only [Nat.sub_zero] at this
      rw [List.getElem?_toArray, this]
      unfold Instr.keyThatStays
      rw [show (10000 : Nat) = 9999 + 1 from rfl]
      simp [Instr.sameBits]
    rw [hkey]
    simp only [Result.andThen_ok]
    have e1 : (es.map ent).toArray.modify j (fun e => { e with key := .int .i64 k, val := v }) = ((mset k v clk es).map ent).toArray := by
      have := look_set (v := v) (c := clk) hq
      simp only [Nat.sub_zero] at this
      rw [← this]
      apply Array.ext'
      simp
    rw [e1, hs]; rfl

theorem run_delete {mt ty kt et : TypeId} {ts : TypeId} {cons : Array Bool} {IK : IntKind} (hm : P.underlying mt = some (.map kt et)) (hk : P.underlying kt = some (.int IK)) {i b clk : Nat} {es : List Ent} {k : Int}
    (hi : l[i]? = some (mp b (es.map ent) clk)) (h : Run W0 (l.set i (mp b ((mdel k es).map ent) clk)) (K (.tuple #[]))) :
    Run W0 l (nextS P (bltN .delete #[mt, ts] ty cons #[.map (some b), .int .i64 k]) K pn) := by
  refine run_turn fun w hw => ⟨_, _, _, ?_, hw.setMp hi _ clk, h⟩
  have hb := hw.mp hi
  have hg := run_getObj (P := P) hb (by simp)
  have hf := findKey_int (P := P) hk k es w
  have hs := run_setObj (P := P) (o' := .map ((mdel k es).map ent).toArray clk) hb (by simp)
  cases hq : lookFrom k es 0 with
  | none =>
    rw [hq] at hf
    have e1 : mdel k es = es := look_del_none hq
    rw [e1] at hs ⊢
    simp [bltN, builtin, Builtin.delete_, run_underlying hm, hg, checkKey_int hk, hf, hs]
  | some p =>
    obtain ⟨j, u⟩ := p
    rw [hq] at hf
    have e1 : (es.map ent).eraseIdx j = (mdel k es).map ent := by
      have := look_del hq
      simpa only [Nat.sub_zero] using this
    simp [bltN, builtin, Builtin.delete_, run_underlying hm, hg, checkKey_int hk, hf, e1, hs]

/-! ### Channels -/
theorem run_send {i b cap : Nat} {buf : List Value} {s r : Nat} {x : Value} (hi : l[i]? = some (ch b cap buf s r)) (hroom : buf.length < cap) (h : ∀ s', Run W0 (l.set i (ch b cap (buf ++ [x]) s' r)) (K undef)) :
    Run W0 l (commS P (sendN (.chan (some b)) x) K) := fun w hw => by
  have hb := hw.ch hi
  refine ⟨⟨_, _, _, w, undef, w.setChan b cap (buf.toArray.push x) false (s + 1) r false, rfl, ?_, ?_⟩⟩
  · simp [commR, hb, hroom]
  · have := hw.setCh hi (buf ++ [x]) (s + 1) r
    refine h (s + 1) _ ?_
    simpa [World.setChan] using this
theorem run_recv {i b cap : Nat} {buf : List Value} {s r : Nat} {x : Value} {e : TypeId} {sz by_ : Nat} {z : Value} (hz : tyI P e = some (sz, by_, some z)) (hi : l[i]? = some (ch b cap (x :: buf) s r))
    (h : ∀ r', Run W0 (l.set i (ch b cap buf s r')) (K (.tuple #[.int .i64 0, .bool true, x]))) : Run W0 l (commS P (selRecvN (.chan (some b)) e) K) := fun w hw => by
  have hb := hw.ch hi
  obtain ⟨inf, hinf, _, _, he⟩ := tyI_spec hz
  refine ⟨⟨_, _, _, w, .tuple #[.int .i64 0, .bool true, x], w.setChan b cap buf.toArray false s (r + 1) false, by simp [selRecvN, zeroValue, typeInfo, hinf, he]; exact ⟨rfl, rfl, rfl⟩, ?_, ?_⟩⟩
  · simp [commR, hb, goInt]
  · have := hw.setCh hi buf s (r + 1)
    refine h (r + 1) _ ?_
    simpa [World.setChan] using this
theorem run_recv0 {i b cap : Nat} {s r : Nat} {e : TypeId} {sz by_ : Nat} {z : Value} (hz : tyI P e = some (sz, by_, some z)) (hi : l[i]? = some (ch b cap [] s r))
    (h : Run W0 l (K (.tuple #[.int .i64 (-1), .bool false, z]))) : Run W0 l (commS P (selRecvN (.chan (some b)) e) K) := fun w hw => by
  have hb := hw.ch hi
  obtain ⟨inf, hinf, _, _, he⟩ := tyI_spec hz
  refine ⟨⟨_, _, _, w, .tuple #[.int .i64 (-1), .bool false, z], w, by simp [selRecvN, zeroValue, typeInfo, hinf, he]; exact ⟨rfl, rfl, rfl⟩, ?_, h w hw⟩⟩
  simp [commR, hb, goInt]

/-! ### Slices that are made, copied, cut -/
def zeros (z : Value) (n : Nat) : List Value := (madeCells z.cells (n * z.cells.size)).toList
theorem length_zeros (z : Value) (n : Nat) : (zeros z n).length = n * z.cells.size := by simp [zeros, size_madeCells]
theorem zeros_one {z : Value} (h : z.cells = #[z]) (n : Nat) : zeros z n = List.replicate n z := by
  unfold zeros madeCells
  rw [h]
  apply List.ext_getElem
  · simp
  · intro i h1 h2; simp [Nat.mod_one]

theorem run_makeSlice {t E : TypeId} {sz by_ : Nat} {z : Value} (ht : P.underlying t = some (.slice E)) (hs : tyI P E = some (sz, by_, some z)) (hz : z.cells.size = sz) {kl kc : IntKind} {n : Nat} (hm : n ≤ maxLen) (hby : by_ * n ≤ 281474976710656)
    (h : ∀ b, Run W0 (pt b E (zeros z n) :: l) (K (.slice (some ⟨b, 0, none⟩) n n))) : Run W0 l (nextS P (V (Instr.makeSlice t (.int kl n) (.int kc n))) K pn) := by
  obtain ⟨inf, hinf, hsz, hbt, he⟩ := tyI_spec hs
  subst hbt
  subst hsz
  refine run_turn fun w hw => ⟨_, _, _, ?_, hw.alloc E (zeros z n), h _⟩
  have h63 : (n : Int) ≤ 9223372036854775807 := by simp only [maxLen] at hm; omega
  have hb' : (inf.bytes : Int) * (n : Int) ≤ 281474976710656 := by
    have h : ((inf.bytes * n : Nat) : Int) ≤ 281474976710656 := by omega
    rwa [Int.natCast_mul] at h
  have := run_make (P := P) w t E inf z ht hinf he kl kc n n (by omega) (Int.le_refl _) hb' h63
  simp only [Int.toNat_natCast] at this
  simp only [V, Sem.run_bind, this, Result.andThen_ok, zeros, hz]
  rfl

/-- The cells of an owned row are written over from cell o on. -/
theorem St.setRowCells (h : St W0 l w) {i : Nat} {E : TypeId} {sz b n c : Nat} {xs : List Value} (hi : l[i]? = some (Proofs.YtkonigmefmgepaaGreatDoor.row E sz (.slice (some ⟨b, 0, none⟩) n c) n xs)) (o : Nat) (vs : List Value) (hfit : o + vs.length ≤ xs.length) :
    ∃ cur : Array Value, w.heap[b]? = some (.cells cur E (0, 0)) ∧ o + vs.length ≤ cur.size ∧
      St W0 (l.set i (Proofs.YtkonigmefmgepaaGreatDoor.row E sz (.slice (some ⟨b, 0, none⟩) n c) n (splice xs o vs))) (w.setRow b (cur.toList.take o ++ vs ++ cur.toList.drop (o + vs.length)).toArray) := by
  obtain ⟨h0, ⟨h1, _⟩ | ⟨b', c', sp, h1, h2, h3, h4, h7⟩⟩ := h.row hi
  · simp at h1
  · simp only [Value.slice.injEq, Option.some.injEq, Addr.mk.injEq] at h1
    obtain ⟨⟨rfl, _⟩, _, rfl⟩ := h1
    refine ⟨_, h7, by simp; omega, ?_⟩
    have hl : (splice xs o vs).length = xs.length := by simp [splice]; omega
    refine h.upd hi (.inr (setRow_grown w b _)) fun F hF ⟨_, hf⟩ => ?_
    rcases hf with ⟨hv, _⟩ | ⟨b'', c'', sp', hv, _, _, _, hFb, hFo, hq⟩
    · simp at hv
    · simp only [Value.slice.injEq, Option.some.injEq, Addr.mk.injEq] at hv
      obtain ⟨⟨rfl, _⟩, _, rfl⟩ := hv
      have hsp : sp' = sp := by
        rw [hq] at h7
        simp at h7
        exact h7
      subst hsp
      refine ⟨fun x hx hn => setRow_other w b x _ (fun e => hn (e ▸ hFb)), F, fun x hx => .inl hx, by rw [hl]; exact h0, .inr ⟨b, c, sp', rfl, h2, h3, ?_, hFb, hFo, ?_⟩⟩
      · rw [List.length_append, hl, ← List.length_append]; exact h4
      · rw [setRow_heap w b _ _ E (0, 0) h7]
        congr 2
        simp only [splice, List.append_assoc]
        rw [List.take_append_of_le_length (by omega), List.drop_append_of_le_length (by omega)]

/-- A store into an element of an owned row. -/
theorem run_st_row {T : TypeId} {sz' by_ : Nat} {z : Option Value} (hs : tyI P T = some (sz', by_, z)) {i : Nat} {E : TypeId} {sz b n c : Nat} {xs : List Value} (hi : l[i]? = some (row E sz (.slice (some ⟨b, 0, none⟩) n c) n xs)) {o : Nat} {v : Value}
    (hv : v.cells.size = sz') (h1 : ∀ u ∈ v.cells.toList, u.oneCell' = true) (hfit : o + sz' ≤ xs.length) (hk : Run W0 (l.set i (row E sz (.slice (some ⟨b, 0, none⟩) n c) n (splice xs o v.cells.toList))) (K undef)) :
    Run W0 l (nextS P (U (Instr.storeAt T (.pointer (some ⟨b, o, none⟩)) v)) K pn) := by
  obtain ⟨inf, hinf, he, _, _⟩ := tyI_spec hs
  refine run_skip fun w hw => ?_
  obtain ⟨cur, hb, hcur, hst⟩ := hw.setRowCells hi o v.cells.toList (by simpa [hv] using hfit)
  refine ⟨_, _, ?_, hst, hk⟩
  have := run_storeCells_at P b o E v.cells.toList 0 cur w hb (by simpa using hcur) h1
  simp only [Nat.add_zero] at this
  simp [U, Instr.storeAt, Instr.sureAddr, storeVar, sizeOf, typeInfo, hinf, he, hv, this]

/-- 'copy' into an owned row (from cell o on). -/
theorem run_copy_row' {dT sT ty E : TypeId} {cons : Array Bool} {sz by_ : Nat} {z : Option Value} (hd : P.underlying dT = some (.slice E)) (hs : tyI P E = some (sz, by_, z)) {i : Nat} {b n c : Nat} {xs : List Value} (hi : l[i]? = some (row E sz (.slice (some ⟨b, 0, none⟩) n c) n xs))
    {o dLen dCap m : Nat} {src : Value} {ys : List Value} (hr : Rd W0 l sz src m ys) (h1 : ∀ u ∈ ys, u.oneCell' = true) (hfit : o + (ys.take (min m dLen * sz)).length ≤ xs.length)
    (hk : Run W0 (l.set i (row E sz (.slice (some ⟨b, 0, none⟩) n c) n (splice xs o (ys.take (min m dLen * sz))))) (K (.int .i64 (min m dLen : Nat)))) :
    Run W0 l (nextS P (bltN .copy #[dT, sT] ty cons #[.slice (some ⟨b, o, none⟩) dLen dCap, src]) K pn) := by
  obtain ⟨inf, hinf, he, _, _⟩ := tyI_spec hs
  subst he
  refine run_turn fun w hw => ?_
  obtain ⟨cur, hb, hcur, hst⟩ := hw.setRowCells hi o _ hfit
  refine ⟨_, _, _, ?_, hst, hk⟩
  have hc := run_storeCells_at P b o E (ys.take (min m dLen * inf.size)) 0 cur w hb (by simpa using hcur) (fun u hu => h1 u (List.mem_of_mem_take hu))
  simp only [Nat.add_zero] at hc
  obtain ⟨hl, ⟨c0, rfl, rfl⟩ | ⟨a, c0, rfl, hmc, hsp, hcl⟩⟩ := hr
  · have : ys = [] := by simpa using hl
    subst this
    simp only [List.take_nil] at hc ⊢
    simp [bltN, builtin, Builtin.copy_, run_underlying hd, Builtin.lenOf, Builtin.firstCells, sizeOf, typeInfo, hinf, hc, goInt]
  · have hlen : (ys.take (min m dLen * inf.size)).length = min m dLen * inf.size := by
      rw [List.length_take, hl]; exact Nat.min_eq_left (Nat.mul_le_mul_right _ (Nat.min_le_left _ _))
    have hld := run_loadCells_list (P := P) w a (ys.take (min m dLen * inf.size)) (fun j v hj => by
      have hlt := (List.getElem?_eq_some_iff.1 hj).1
      rw [hlen] at hlt
      rw [List.getElem?_take_of_lt hlt] at hj
      exact hcl w hw j v hj)
    rw [hlen] at hld
    have e : Nat.min m dLen = min m dLen := rfl
    simp [bltN, builtin, Builtin.copy_, run_underlying hd, Builtin.lenOf, Builtin.firstCells, sizeOf, typeInfo, hinf, e, hld, hc, goInt]

/-- An owned row is cut: the rest is spare. -/
theorem run_row_cut (i : Nat) {E : TypeId} {sz b n cp : Nat} {xs : List Value} {c : C} (hi : l[i]? = some (row E sz (.slice (some ⟨b, 0, none⟩) n cp) n xs)) (k : Nat) (hk : k ≤ n)
    (h : Run W0 (l.set i (row E sz (.slice (some ⟨b, 0, none⟩) k cp) k (xs.take (k * sz)))) c) : Run W0 l c :=
  h.of fun w hw => hw.upd hi (.inr ⟨rfl, rfl, rfl, Nat.le_refl _⟩) fun F hF ⟨h0, hf⟩ => by
    rcases hf with ⟨hv, _⟩ | ⟨b'', c'', sp', hv, h2, h3, h4, hFb, hFo, hq⟩
    · simp at hv
    · simp only [Value.slice.injEq, Option.some.injEq, Addr.mk.injEq] at hv
      obtain ⟨⟨rfl, _⟩, _, rfl⟩ := hv
      refine ⟨fun _ _ _ => rfl, F, fun x hx => .inl hx, ?_, .inr ⟨b, cp, xs.drop (k * sz) ++ sp', rfl, by omega, h3, ?_, hFb, hFo, ?_⟩⟩
      · rw [List.length_take, h0]; exact Nat.min_eq_left (Nat.mul_le_mul_right _ hk)
      · rw [← List.append_assoc, List.take_append_drop]; exact h4
      · rw [← List.append_assoc, List.take_append_drop]; exact hq
end
end Go.Proofs.YtkonigmefmgepaaGreatDoor
