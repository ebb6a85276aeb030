/- A shallow form of a Go function's loaded code (a predicate transformer over values), and that it is sound for the machine's calls. Own work. -/
import Derived.OrdersHeld
import Derived.Tactics
import Derived.KernelRfl
import Derived.Conc.LoneSelect
import Derived.ScopeJumps
namespace Go.Proofs.YtkonigmefmgepaaGreatDoor

abbrev C := World → Prop
abbrev Env := Nat → Value
abbrev Pn := List PanicEntry → C

inductive Ex where
  | normal
  | exit (id : Nat)
  | goto (l : Nat)
  | ret

def upd (e : Env) (d : Nat) (v : Value) : Env := fun t => bif Nat.beq t d then v else e t
def updO (e : Env) (d : Option Tmp) (v : Value) : Env := match d with
  | some d => upd e d v
  | none => e
def ev (e : Env) : Operand → Value
  | .tmp t => e t
  | .const v => v
  | .global g => .pointer (some ⟨g, 0, none⟩)
  | .func f => .func (.func f) #[] #[]

/-- What becomes of one operation's meaning. -/
structure nextS (P : Program) (s : Sem Next) (K : Value → C) (pn : Pn) (w : World) : Prop where
  h : match s.run P w with
  | .ok (.value v) w' => K v w'
  | .ok .skip w' => K undef w'
  | .ok (.enter f args) w' => Calls P f args w' fun e w'' => match e with
      | .returned v => K v w''
      | .panicked c => pn c w''
      | .outgrown => False
  | .ok (.row r args) w' => Rows P r args w' K
  | .halt (.panic v) w' => pn [{ v, recovered := false }] w'
  | _ => False

/-- What becomes of a send into a buffer with room, and of a select of one receive with a default, where nobody else is there. -/
def commR (cases : Array CommCase) (blocking : Bool) (shape : CommShape) (w : World) : Option (Value × World) :=
  match cases, blocking, shape with
  | ⟨[⟨.chan (some c), some v, _⟩]⟩, true, .send => match w.heap[c]? with
    | some (.chan cap buf false s r tm) => if buf.size < cap then some (undef, w.setChan c cap (buf.push v) false (s + 1) r tm) else none
    | _ => none
  | ⟨[⟨.chan (some c), none, z⟩]⟩, false, .select => match w.heap[c]? with
    | some (.chan cap buf closed s r tm) =>
      if 0 < buf.size then some (.tuple #[goInt 0, .bool true, buf.getD 0 undef], w.setChan c cap (buf.extract 1 buf.size) closed s (r + 1) tm)
      else if closed then none else some (.tuple #[goInt (-1), .bool false, z], w)
    | _ => none
  | _, _, _ => none
structure commS (P : Program) (s : Sem Next) (K : Value → C) (w : World) : Prop where
  h : ∃ cs b sh w₁ v w₂, s.run P w = .ok (.comm cs b sh) w₁ ∧ commR cs b sh w₁ = some (v, w₂) ∧ K v w₂
def isComm : Op → Bool
  | .send .. | .select .. => true
  | _ => false

/-! ### The operations' meanings, as the generated texts name them -/
abbrev V (s : Sem Value) : Sem Next := do pure (.value (← s))
abbrev U (s : Sem Unit) : Sem Next := do s; pure .skip
abbrev pickN (c a b : Value) : Sem Next := do pure (.value (if ← asBool c then a else b))
abbrev binN (op : BinOp) (t : TypeId) (x y : Operand) (a b : Value) : Sem Next := V (do eqGuard op t x y a b; binOp op t a b)
abbrev nilN (x : Value) : Sem Next := execOp (fun _ => x) { (default : Oper) with op := .nilCheck (.tmp 0) }
abbrev callVN (f : Value) (args : Array Value) : Sem Next := do let d ← Deferred.ofValue f args; invoke d.target d.args
abbrev callIN (recv : Value) (name : String) (args : Array Value) : Sem Next := invoke (.fn (.method name) #[]) (#[recv] ++ args)
abbrev bltN (b : Builtin) (argTypes : Array TypeId) (type : TypeId) (consts : Array Bool) (args : Array Value) : Sem Next := builtin b argTypes type consts args
abbrev sendN (ch x : Value) : Sem Next := pure (.comm #[{ chan := ch, send := some x, zero := .tuple #[] }] true .send)
abbrev selRecvN (ch : Value) (elem : TypeId) : Sem Next := do pure (.comm #[{ chan := ch, send := none, zero := ← zeroValue elem }] false .select)

/-- Structural maps over arrays (the kernel reckons them). -/
def mapA {α β : Type} (f : α → β) (xs : Array α) : Array β := (xs.toList.map f).toArray
theorem mapA_eq {α β : Type} (f : α → β) (xs : Array α) : mapA f xs = xs.map f := by
  apply Array.ext'
  simp [mapA]
def constB : Operand → Bool
  | .const _ => true
  | _ => false
def semD (o : Oper) (e : Env) : Sem Next :=
  match o.op with
  | .call ⟨.builtin b, args, ts⟩ => bltN b ts o.type (mapA constB args) (mapA (ev e) args)
  | .call ⟨.value x, args, _⟩ => callVN (ev e x) (mapA (ev e) args)
  | .call ⟨.invoke r nm, args, _⟩ => callIN (ev e r) nm (mapA (ev e) args)
  | .build t ps => V (Instr.build t (mapA (fun p => (p.1, ev e p.2)) ps))
  | .buildSlice t n ps => V (Instr.buildSlice t n (mapA (fun p => (p.1, ev e p.2)) ps))
  | .makeFunc fn a b => V (Instr.makeFunc fn (mapA (ev e) a) (mapA (ev e) b))
  | _ => execOp (ev e) o
theorem semD_eq (o : Oper) (e : Env) : semD o e = execOp (ev e) o := by
  unfold semD
  generalize ho : o.op = op
  cases op with
  | call c =>
    obtain ⟨callee, args, ts⟩ := c
    cases callee with
    | value x => simp only [execOp, ho, resolve, mapA_eq]
    | invoke r nm => simp [execOp, ho, resolve, mapA_eq, bind, pure, Sem.bind]
    | builtin b =>
      have hc : mapA constB args = args.map fun | .const _ => true | _ => false := by
        rw [mapA_eq]
        rfl
      simp only [execOp, ho, resolve, hc, mapA_eq]
      simp [bind, pure, Sem.bind, invoke]
      rfl
  | build t ps => simp only [execOp, ho, mapA_eq]
  | buildSlice t n ps => simp only [execOp, ho, mapA_eq]
  | makeFunc fn a b => simp only [execOp, ho, mapA_eq]
  | _ => simp only [execOp, ho]

/-- A call of a function that is named outright. -/
structure callS (P : Program) (f : FuncId) (args : Array Value) (K : Value → C) (pn : Pn) (w : World) : Prop where
  h : nextS P (callFunc f args) K pn w

def selD (P : Program) (cs : Array SelectCase) (bl : Bool) (e : Env) (K : Value → C) : C := fun w => match cs, bl with
  | ⟨[⟨ch, none, el⟩]⟩, false => commS P (selRecvN (ev e ch) el) K w
  | _, _ => False
def opD (P : Program) (o : Oper) (e : Env) (K : Value → C) (pn : Pn) : C :=
  match o.op with
  | .move x => K (ev e x)
  | .assign x => K (ev e x)
  | .call ⟨.value (.func f), args, _⟩ => callS P f (mapA (ev e) args) K pn
  | .send a b => commS P (sendN (ev e a) (ev e b)) K
  | .select cs bl => selD P cs bl e K
  | _ => nextS P (semD o e) K pn

def ydE (ops : Array Oper) (e : Env) (j : Nat) : Value := match (ops[j]?).bind (·.dst) with
  | some d => e d
  | none => undef
def grdB (v : Value) (want : Bool) (run : (Value → C) → C) (K : Value → C) : C := match v with
  | .bool b => bif b == want then run K else K undef
  | _ => K undef
structure grdS (v : Value) (want : Bool) (run : (Value → C) → C) (K : Value → C) (w : World) : Prop where
  h : grdB v want run K w
def opG (ops : Array Oper) (o : Oper) (e : Env) (run : (Value → C) → C) (K : Value → C) : C := match o.guard with
  | none => run K
  | some (j, want) => grdS (ydE ops e j) want run K

def regD (P : Program) (ops : Array Oper) : List Oper → Env → (Env → C) → Pn → C
  | [], e, K, _ => K e
  | o :: r, e, K, pn => opG ops o e (fun K => opD P o e K pn) (fun v => regD P ops r (updO e o.dst v) K pn)

/-- The order in which a region that draws is gone through: what may be taken first, and what comes up. -/
inductive Mo where
  | done
  | take (i : Nat) (r : Mo)
  | eff (i : Nat) (r : Mo)
  | two (i : Nat) (ri : Mo) (j : Nat) (rj : Mo)
  | three (i : Nat) (ri : Mo) (j : Nat) (rj : Mo) (k : Nat) (rk : Mo)

/-- An operation that yields its value in every world that meets S, and leaves it as it is. -/
structure takeS (S : C) (P : Program) (s : Sem Next) (K : Value → C) (w : World) : Prop where
  h : ∃ v, (∀ w, S w → s.run P w = .ok (.value v) w) ∧ K v w
/-- An operation that yields its value in every world, and leaves it as it is. -/
structure pureS (P : Program) (s : Sem Next) (K : Value → C) (w : World) : Prop where
  h : ∃ v, (∀ w, s.run P w = .ok (.value v) w) ∧ K v w
def opT (P : Program) (S : C) (o : Oper) (e : Env) (K : Value → C) : C :=
  match o.op with
  | .move x => K (ev e x)
  | .assign x => K (ev e x)
  | .load _ _ => takeS S P (semD o e) K
  | .lookup _ _ _ _ => takeS S P (semD o e) K
  | .entry _ => takeS S P (semD o e) K
  | .call _ => takeS S P (semD o e) K
  | _ => pureS P (semD o e) K

def effS (P : Program) (ops : Array Oper) (S : C) (i : Nat) (e : Env) (r : Env → C) (pn : Pn) : C := match ops[i]? with
  | none => fun _ => False
  | some o => opG ops o e (fun K => opD P o e K pn) (fun v w => S w ∧ r (updO e o.dst v) w)

def drawD (P : Program) (ops : Array Oper) (S : C) (K : Env → C) (pn : Pn) : Mo → Env → C
  | .done, e => K e
  | .take i r, e => match ops[i]? with
    | none => fun _ => False
    | some o => opG ops o e (opT P S o e) (fun v => drawD P ops S K pn r (updO e o.dst v))
  | .eff i r, e => effS P ops S i e (drawD P ops S K pn r) pn
  | .two i ri j rj, e => fun w => effS P ops S i e (drawD P ops S K pn ri) pn w ∧ effS P ops S j e (drawD P ops S K pn rj) pn w
  | .three i ri j rj k rk, e => fun w => effS P ops S i e (drawD P ops S K pn ri) pn w ∧ effS P ops S j e (drawD P ops S K pn rj) pn w ∧ effS P ops S k e (drawD P ops S K pn rk) pn w

def dr (w : World) : World := { w with drawn := w.drawn + 1 }
structure DrawS (f : C → C) (w : World) : Prop where
  h : ∃ S : C, S (dr w) ∧ f S (dr w)

structure condS (v : Value) (A B : C) (w : World) : Prop where
  h : match v with
  | .bool true => A w
  | .bool false => B w
  | _ => False

def firstReg : Code → Nat
  | .region id _ _ => id
  | .seq a _ => firstReg a
  | .block _ c | .loop c | .scope c => firstReg c
  | .cond _ a _ => firstReg a
  | _ => 0

structure LoopS (vs : List Value) (l : List Nat) (body : (List Value → C) → Env → C) (w : World) : Prop where
  h : ∃ (σ : Type) (I : σ → List Value → C) (μ : σ → Nat) (s0 : σ), I s0 vs w ∧
    ∀ s e w, I s (l.map e) w → body (fun vs' w' => ∃ s', μ s' < μ s ∧ I s' vs' w') e w

def D (P : Program) (mo : Nat → Mo) (lv : Nat → List Nat) (pn : Pn) : Code → (Ex → Env → C) → Env → C
  | .skip, Q, e => Q .normal e
  | .ret, Q, e => Q .ret e
  | .label _, Q, e => Q .normal e
  | .exit id, Q, e => Q (.exit id) e
  | .goto l, Q, e => Q (.goto l) e
  | .seq a b, Q, e => D P mo lv pn a (fun x e => match x with
      | .normal => D P mo lv pn b Q e
      | x => Q x e) e
  | .cond c a b, Q, e => condS (ev e c) (D P mo lv pn a Q e) (D P mo lv pn b Q e)
  | .block id c, Q, e => D P mo lv pn c (fun x e => match x with
      | .exit id' => bif Nat.beq id' id then Q .normal e else Q (.exit id') e
      | x => Q x e) e
  | .loop c, Q, e => LoopS ((lv (firstReg c)).map e) (lv (firstReg c)) (fun nxt e => D P mo lv pn c (fun x e' => match x with
      | .normal => nxt ((lv (firstReg c)).map e')
      | x => Q x e') e)
  | .region id ops draw, Q, e => bif draw then DrawS (fun S => drawD P ops S (Q .normal) pn (mo id) e) else regD P ops ops.toList e (Q .normal) pn
  | _, _, _ => fun _ => False

/-! ### The checks -/
def okDst (n : Nat) (o : Oper) : Bool := match o.dst with
  | some d => decide (d < n)
  | none => true
def okMo (ops : Array Oper) : Nat → Array Bool → Mo → Bool
  | 0, l, .done => (Region.ready .any ops l).isEmpty
  | f + 1, l, .take i r => (Region.ready .any ops l).contains i && Region.free .any ops l i && okMo ops f (l.setIfInBounds i true) r
  | f + 1, l, .eff i r => decide (Region.ready .any ops l = [i]) && okMo ops f (l.setIfInBounds i true) r
  | f + 1, l, .two i ri j rj => decide (Region.ready .any ops l = [i, j]) && okMo ops f (l.setIfInBounds i true) ri && okMo ops f (l.setIfInBounds j true) rj
  | f + 1, l, .three i ri j rj k rk => decide (Region.ready .any ops l = [i, j, k]) && okMo ops f (l.setIfInBounds i true) ri && okMo ops f (l.setIfInBounds j true) rj && okMo ops f (l.setIfInBounds k true) rk
  | _, _, _ => false
def okC (n : Nat) (mo : Nat → Mo) : Code → Bool
  | .seq a b | .cond _ a b => okC n mo a && okC n mo b
  | .block _ c | .loop c => okC n mo c
  | .region id ops draw => ops.toList.all (okDst n) && (!draw || (ops.toList.all (fun o => !isComm o.op) && Region.noSelect ops && okMo ops ops.size (Array.replicate ops.size false) (mo id)))
  | _ => true

/-! ### Soundness -/
structure Agr (n : Nat) (ds : List Deferred) (e : Env) (a : Act) : Prop where
  size : a.tmps.size = n
  defs : a.defers = ds
  at_ : ∀ t, a.tmps.getD t undef = e t

section
variable {P : Program} {n : Nat} {ds : List Deferred} {e : Env} {a : Act} {w : World}

theorem Agr.ev (h : Agr n ds e a) : a.eval = ev e := by
  funext x
  cases x with
  | tmp t => exact h.at_ t
  | _ => rfl

theorem Agr.put (h : Agr n ds e a) (d : Option Tmp) (v : Value) (hd : ∀ t, d = some t → t < n) : Agr n ds (updO e d v) (a.put d v) := by
  cases d with
  | none => exact h
  | some d =>
    have hlt := hd d rfl
    refine ⟨by simp [Act.put, h.size], h.defs, fun t => ?_⟩
    have ht := h.at_ t
    simp only [updO, upd]
    by_cases htd : t = d
    · subst htd
      have : Nat.beq t t = true := by simp
      simp [Act.put, h.size, hlt]
    · have hb : Nat.beq t d = false := by
        cases hb : Nat.beq t d with
        | false => rfl
        | true => exact absurd (Nat.eq_of_beq_eq_true hb) htd
      rw [hb]
      simp only [cond_false, ← ht]
      simp [Act.put, Array.getElem?_setIfInBounds_ne (Ne.symm htd)]

theorem Agr.yd (h : Agr n ds e a) (ops : Array Oper) (hok : ops.toList.all (okDst n) = true) (j : Nat) (want : Bool) :
    (yielded ops a.tmps j == some want) = true ↔ ydE ops e j = .bool want := by
  unfold yielded ydE
  cases hj : ops[j]? with
  | none => simp [undef]
  | some o =>
    cases hd : o.dst with
    | none => simp [hd, undef]
    | some d =>
      have hlt : d < n := by
        have hm : o ∈ ops.toList := by
          have := (Array.getElem?_eq_some_iff.1 hj); obtain ⟨hl, rfl⟩ := this
          exact Array.getElem_mem_toList hl
        have := List.all_eq_true.1 hok o hm
        simpa [okDst, hd] using this
      have hs : a.tmps[d]? = some (e d) := by
        have h1 := h.at_ d
        have h2 : d < a.tmps.size := by rw [h.size]; exact hlt
        rw [Array.getElem?_eq_getElem h2]
        simp [h2] at h1
        rw [h1]
      simp only [hd, Option.bind_some, hs]
      cases e d with
      | bool b => cases b <;> cases want <;> simp
      | _ => simp

theorem exists_min {Q : Nat → Prop} : ∀ k, Q k → ∃ j, Q j ∧ ∀ i, Q i → j ≤ i := by
  intro k
  induction k using Nat.strongRecOn with
  | _ k ih =>
    intro hk
    by_cases h : ∃ i, i < k ∧ Q i
    · obtain ⟨i, hi, hq⟩ := h; exact ih i hi hq
    · exact ⟨k, hk, fun i hi => by
        rcases Nat.lt_or_ge i k with hlt | hge
        · exact absurd ⟨i, hlt, hi⟩ h
        · exact hge⟩

/-- The kit's loop law with a state of the prover's own. -/
theorem wp_loop_state {P : Program} {Q : Exit → Act → World → Prop} {a : Act} {w : World} {c : Code} {σ : Type} (I : σ → Act → World → Prop) (μ : σ → Nat) (s0 : σ) (h0 : I s0 a w)
    (round : ∀ s a w, I s a w → c.wp P (Exit.then (fun a' w' => ∃ s', μ s' < μ s ∧ I s' a' w') Q) a w) : (Code.loop c).wp P Q a w := by
  classical
  let R : Act → World → Nat → Prop := fun a w k => ∃ s, I s a w ∧ μ s = k
  let m : Act → World → Nat := fun a w => if h : ∃ j, R a w j ∧ ∀ i, R a w i → j ≤ i then h.choose else 0
  have hm : ∀ s a w, I s a w → R a w (m a w) ∧ m a w ≤ μ s := by
    intro s a w hs
    have h : ∃ j, R a w j ∧ ∀ i, R a w i → j ≤ i := exists_min (μ s) ⟨s, hs, rfl⟩
    have e : m a w = h.choose := by simp only [m, dif_pos h]
    rw [e]
    exact ⟨h.choose_spec.1, h.choose_spec.2 _ ⟨s, hs, rfl⟩⟩
  refine wp_loop (fun a w => ∃ s, I s a w) m ⟨s0, h0⟩ ?_
  rintro a w ⟨s, hs⟩
  obtain ⟨⟨s1, hs1, he1⟩, _⟩ := hm s a w hs
  refine wp_mono (round s1 a w hs1) fun x a' w' hq => ?_
  cases x with
  | normal =>
    obtain ⟨s', hlt, hs'⟩ := hq
    exact ⟨⟨s', hs'⟩, by have := (hm s' a' w' hs').2; omega⟩
  | exit id => exact hq
  | goto l => exact hq
  | ret => exact hq
  | panic c => exact hq
  | outgrown => exact hq

/-- The post of the machine out of the post of the shallow form. -/
def QA (n : Nat) (ds : List Deferred) (Q : Ex → Env → C) (pn : Pn) : Exit → Act → World → Prop
  | .normal, a, w => ∃ e, Agr n ds e a ∧ Q .normal e w
  | .exit id, a, w => ∃ e, Agr n ds e a ∧ Q (.exit id) e w
  | .goto l, a, w => ∃ e, Agr n ds e a ∧ Q (.goto l) e w
  | .ret, a, w => ∃ e, Agr n ds e a ∧ Q .ret e w
  | .panic c, a, w => a.defers = ds ∧ pn c w
  | .outgrown, _, _ => False

theorem nextS_wp {o : Oper} {K : Value → C} {pn : Pn} {K' : Act → World → Prop} {Q' : Exit → Act → World → Prop} (h : nextS P (execOp a.eval o) K pn w)
    (hK : ∀ v w, K v w → K' (a.put o.dst v) w) (hp : ∀ c w, pn c w → Q' (.panic c) a w) : o.wp P a w K' Q' := by
  replace h := h.h
  unfold Oper.wp
  generalize (execOp a.eval o).run P w = r at *
  cases r with
  | ok x w' =>
    cases x <;> simp only [Oper.upon] <;> try exact h.elim
    · exact hK _ _ h
    · exact hK _ _ h
    · refine Calls.mono h fun e w'' he => ?_
      cases e with
      | returned v => exact hK _ _ he
      | panicked c => exact hp _ _ he
      | outgrown => exact he.elim
    · exact Rows.mono h fun v w'' he => hK _ _ he
  | halt x w' =>
    cases x <;> simp only [Oper.upon] <;> first | exact h.elim | exact hp _ _ h

theorem execOp_func {ρ : Operand → Value} {o : Oper} {f : FuncId} {args : Array Operand} {ts : Array TypeId} (ho : o.op = .call ⟨.value (.func f), args, ts⟩)
    (hρ : ρ (.func f) = .func (.func f) #[] #[]) : execOp ρ o = callFunc f (args.map ρ) := by
  unfold execOp
  simp only [ho]
  simp [resolve, hρ, Deferred.ofValue, bind, pure, Sem.bind, invoke]

theorem opD_wp {o : Oper} {K : Value → C} {pn : Pn} {K' : Act → World → Prop} {Q' : Exit → Act → World → Prop} (hA : Agr n ds e a) (hc : isComm o.op = false) (h : opD P o e K pn w)
    (hK : ∀ v w, K v w → K' (a.put o.dst v) w) (hp : ∀ c w, pn c w → Q' (.panic c) a w) : o.wp P a w K' Q' := by
  have hev := hA.ev
  have gen : nextS P (semD o e) K pn w → o.wp P a w K' Q' := fun h => nextS_wp (by rw [hev, ← semD_eq]; exact h) hK hp
  unfold opD at h
  generalize ho : o.op = op at h hc
  cases op with
  | send _ _ => simp [isComm] at hc
  | select _ _ => simp [isComm] at hc
  | move x =>
    unfold Oper.wp
    rw [hev]
    simp only [execOp, ho, pure, Sem.run, Oper.upon]
    exact hK _ _ h
  | assign x =>
    unfold Oper.wp
    rw [hev]
    simp only [execOp, ho, pure, Sem.run, Oper.upon]
    exact hK _ _ h
  | call c =>
    obtain ⟨callee, args, ts⟩ := c
    cases callee with
    | value x =>
      cases x with
      | func f => exact gen (by rw [semD_eq, execOp_func ho rfl, ← mapA_eq]; exact h.h)
      | _ => exact gen h
    | _ => exact gen h
  | _ => exact gen h

theorem opD_comm {o : Oper} {K : Value → C} {pn : Pn} (hA : Agr n ds e a) (hc : isComm o.op = true) (h : opD P o e K pn w) :
    ∃ cs b sh w₁ v w₂, (execOp a.eval o).run P w = .ok (.comm cs b sh) w₁ ∧ commR cs b sh w₁ = some (v, w₂) ∧ K v w₂ := by
  have hev := hA.ev
  unfold opD at h
  generalize ho : o.op = op at h hc
  cases op with
  | send _ _ =>
    rw [hev]
    obtain ⟨cs, b, sh, w₁, v, w₂, h1, h2, h3⟩ := h.h
    exact ⟨cs, b, sh, w₁, v, w₂, by simpa only [execOp, ho] using h1, h2, h3⟩
  | select cs bl =>
    change selD P cs bl e K w at h
    unfold selD at h
    split at h
    · rename_i ch el
      obtain ⟨cs', b, sh, w₁, v, w₂, h1, h2, h3⟩ := h.h
      refine ⟨cs', b, sh, w₁, v, w₂, ?_, h2, h3⟩
      rw [hev, ← h1]
      simp only [execOp, ho, selRecvN]
      simp
    · exact h.elim
  | _ => simp [isComm] at hc

theorem commR_step {fr : Frame} {cs : List Frame} {w w₁ w₂ : World} {es : Array Event} {cases : Array CommCase} {b : Bool} {sh : CommShape} {v : Value}
    (hg : stepG P true (Conc.G fr cs) w = .comm (Conc.G fr cs) cases b sh w₁ es) (h : commR cases b sh w₁ = some (v, w₂)) :
    step P (lone fr cs w) = .next (lone (fr.finish v) cs w₂) := by
  unfold commR at h
  split at h
  · rename_i c x z
    split at h
    · rename_i cap buf s r tm hc
      split at h
      · rename_i hroom
        simp only [Option.some.injEq, Prod.mk.injEq] at h
        obtain ⟨rfl, rfl⟩ := h
        exact Conc.step_lone_send_room (z' := z) hg hc hroom
      · cases h
    · cases h
  · rename_i c z
    split at h
    · rename_i cap buf closed s r tm hc
      by_cases hsome : 0 < buf.size
      · rw [if_pos hsome] at h
        simp only [Option.some.injEq, Prod.mk.injEq] at h
        obtain ⟨rfl, rfl⟩ := h
        exact Conc.step_lone_select_recv_buf (z := z) hg hc hsome
      · rw [if_neg hsome] at h
        have hb : buf = #[] := by
          have : buf.size = 0 := by omega
          exact Array.eq_empty_of_size_eq_zero this
        cases closed with
        | true => simp at h
        | false =>
          simp only [Bool.false_eq_true, if_false, Option.some.injEq, Prod.mk.injEq] at h
          obtain ⟨rfl, rfl⟩ := h
          subst hb
          exact Conc.step_lone_select_default (z := z) hg hc
    · cases h
  · cases h

/-- As the kit's 'wpOps', with sends and selects. -/
def wpX (P : Program) (ops : Array Oper) (Q : Exit → Act → World → Prop) : List Nat → Act → World → Prop
  | [], a, w => Q .normal a w
  | i :: rest, a, w => match ops[i]? with
    | none => wpX P ops Q rest a w
    | some o => if Region.wanted o (yielded ops a.tmps) then o.wp P a w (wpX P ops Q rest) Q ∨
          (∃ cs b sh w₁ v w₂, (execOp a.eval o).run P w = .ok (.comm cs b sh) w₁ ∧ commR cs b sh w₁ = some (v, w₂) ∧ wpX P ops Q rest (a.put o.dst v) w₂)
        else wpX P ops Q rest (a.put o.dst undef) w

theorem wpX_ops {ops : Array Oper} {Q : Exit → Act → World → Prop} (l : List Nat) :
    ∀ (a : Act) (w : World), wpX P ops Q l a w → ∀ (b : Frame) (k : List Item) (cs : List Frame),
      ∃ e a' w', Q e a' w' ∧ Arrives P (lone (b.at a (.inRegion ops l :: k)) cs w) b k cs e a' w' := by
  induction l with
  | nil => exact fun a w h b k cs => ⟨.normal, a, w, h, .one step_region_end⟩
  | cons i rest ih =>
    intro a w h b k cs
    unfold wpX at h
    cases ho : ops[i]? with
    | none =>
      simp only [ho] at h
      obtain ⟨e, a', w', hq, har⟩ := ih a w h b k cs
      refine ⟨e, a', w', hq, .of_steps (.one ?_) har⟩
      have := step_op_skip (P := P) (b := b) (a := a) (k := k) (cs := cs) (w := w) (ops := ops) (i := i) (rest := rest) (by simp [ho])
      simpa [ho, Act.put] using this
    | some o =>
      simp only [ho] at h
      have hfin : ∀ v, (b.at a (.inRegion ops (i :: rest) :: k)).finish v = b.at (a.put o.dst v) (.inRegion ops rest :: k) := fun v => by
        rw [Frame.finish_at, ho]; rfl
      by_cases hw : Region.wanted o (yielded ops a.tmps) = true
      · rw [if_pos hw] at h
        have hg := stepG_op (P := P) (b := b) (k := k) (cs := cs) (w := w) (rest := rest) ho hw
        rcases h with h | ⟨cc, bb, sh, w₁, v, w₂, hrun, hcr, h⟩
        · unfold Oper.wp at h
          generalize hr : (execOp a.eval o).run P w = r at h
          cases r with
          | ok x w' =>
            cases x <;> simp only [Oper.upon] at h <;> try exact h.elim
            case value v =>
              obtain ⟨e, a', w'', hq, har⟩ := ih _ _ h b k cs
              refine ⟨e, a', w'', hq, .of_steps (.one (step_lone_go ?_)) har⟩
              rw [hg, ← hfin]; simp [stepG.apply, hr]
            case skip =>
              obtain ⟨e, a', w'', hq, har⟩ := ih _ _ h b k cs
              refine ⟨e, a', w'', hq, .of_steps (.one (step_lone_go ?_)) har⟩
              rw [hg, ← hfin]; simp [stepG.apply, hr]
            case defer d =>
              obtain ⟨e, a', w'', hq, har⟩ := ih _ _ h b k cs
              refine ⟨e, a', w'', hq, .of_steps (.one (step_lone_go ?_)) har⟩
              have hf := Frame.finish_at b { a with defers := d :: a.defers } ops i rest k undef
              rw [ho] at hf
              rw [hg]; simp only [stepG.apply, Sem.runT_eq, hr, GStep.bare_after]
              exact congrArg (fun fr => GStep.go { frame := fr, callers := cs, status := .running, dying := none } w') hf
            case enter f args =>
              obtain ⟨e, w'', fr, hR, hst, _, hlv⟩ := h (b.at a (.inRegion ops (i :: rest) :: k) :: cs)
              have hen : step P (lone (b.at a (.inRegion ops (i :: rest) :: k)) cs w) =
                  .next (lone (Frame.enter P f args .normal) (b.at a (.inRegion ops (i :: rest) :: k) :: cs) w') :=
                step_lone_go (by rw [hg]; simp [stepG.apply, hr, Frame.at])
              cases e with
              | returned v =>
                obtain ⟨e, a', w₃, hq, har⟩ := ih _ _ hR b k cs
                refine ⟨e, a', w₃, hq, .of_steps (.head hen (hst.trans (.one ?_))) har⟩
                rw [← hfin]; exact step_leave_returned hlv
              | panicked ch =>
                refine ⟨.panic ch, a, w'', hR, .inRegion ops (i :: rest) :: k, .head hen (hst.trans (.one ?_))⟩
                rw [← Frame.raise_at]; exact step_leave_panicked hlv
              | outgrown =>
                obtain ⟨a₀, w₀, hq⟩ := hR
                exact ⟨.outgrown, a₀, w₀, hq, .inr (Outgrown.of_steps (.one hen) hst)⟩
            case row row args =>
              obtain ⟨v, w'', hR, hst⟩ := h (b.at a (.inRegion ops (i :: rest) :: k)) cs
              have hen : step P (lone (b.at a (.inRegion ops (i :: rest) :: k)) cs w) =
                  .next (lone (Frame.ofRow P row args .normal) (b.at a (.inRegion ops (i :: rest) :: k) :: cs) w') :=
                step_lone_go (by rw [hg]; simp [stepG.apply, hr, Frame.at])
              obtain ⟨e, a', w₃, hq, har⟩ := ih _ _ hR b k cs
              refine ⟨e, a', w₃, hq, .of_steps (.head hen ?_) har⟩
              rw [← hfin]; exact hst
          | halt x w' =>
            cases x <;> simp only [Oper.upon] at h <;> try exact h.elim
            case panic v =>
              refine ⟨_, a, w', h, .inRegion ops (i :: rest) :: k, .one (step_lone_go ?_)⟩
              rw [hg, ← Frame.raise_at]; simp [stepG.apply, hr]
        · obtain ⟨e, a', w'', hq, har⟩ := ih _ _ h b k cs
          refine ⟨e, a', w'', hq, .of_steps (.one ?_) har⟩
          rw [← hfin]
          have hcm : ∃ es, stepG P true (Conc.G (b.at a (.inRegion ops (i :: rest) :: k)) cs) w = .comm (Conc.G (b.at a (.inRegion ops (i :: rest) :: k)) cs) cc bb sh w₁ es := by
            unfold Conc.G
            rw [hg]
            simp only [stepG.apply, Sem.runT_eq, hrun, GStep.after]
            exact ⟨_, rfl⟩
          obtain ⟨es, hcm⟩ := hcm
          exact commR_step hcm hcr
      · rw [if_neg hw] at h
        obtain ⟨e, a', w', hq, har⟩ := ih _ _ h b k cs
        refine ⟨e, a', w', hq, .of_steps (.one ?_) har⟩
        have := step_op_skip (P := P) (b := b) (a := a) (k := k) (cs := cs) (w := w) (ops := ops) (i := i) (rest := rest) (by simp [ho]; simpa using hw)
        simpa [ho] using this

theorem wpX_region {id : Nat} {ops : Array Oper} {Q : Exit → Act → World → Prop} (h : wpX P ops Q (List.range ops.size) a w) : (Code.region id ops false).wp P Q a w :=
  fun b k cs => let ⟨e, a', w', q, r⟩ := wpX_ops _ a w h b k cs; ⟨e, a', w', q, .of_steps (.one step_region) r⟩

theorem opG_wp {ops : Array Oper} {o : Oper} (hA : Agr n ds e a) (hok : ops.toList.all (okDst n) = true) {run : (Value → C) → C} {K : Value → C} (h : opG ops o e run K w) :
    (Region.wanted o (yielded ops a.tmps) = true ∧ run K w) ∨ (Region.wanted o (yielded ops a.tmps) = false ∧ K undef w) := by
  unfold opG at h
  unfold Region.wanted
  generalize hg : o.guard = g at h
  cases g with
  | none => exact .inl ⟨rfl, h⟩
  | some jw =>
    obtain ⟨j, want⟩ := jw
    have hy := hA.yd ops hok j want
    simp only at h ⊢
    replace h := h.h
    unfold grdB at h
    generalize hv : ydE ops e j = v at h hy
    cases v with
    | bool b =>
      by_cases hw : b = want
      · subst hw; simp at h; exact .inl ⟨hy.2 rfl, h⟩
      · have hbw : (b == want) = false := by simpa using hw
        simp only [hbw, cond_false] at h
        refine .inr ⟨?_, h⟩
        rw [← Bool.not_eq_true, hy]
        simpa using hw
    | _ =>
      refine .inr ⟨?_, h⟩
      rw [← Bool.not_eq_true, hy]
      simp

theorem okDst_spec {o : Oper} (h : okDst n o = true) : ∀ t, o.dst = some t → t < n := by
  intro t ht
  simpa [okDst, ht] using h

theorem regD_wp {ops : Array Oper} {Q : Ex → Env → C} {pn : Pn} (hok : ops.toList.all (okDst n) = true) : ∀ (l : List Oper) (k : Nat) (e : Env) (a : Act) (w : World), (∀ j, l[j]? = ops[k + j]?) → l.all (okDst n) = true →
    Agr n ds e a → regD P ops l e (Q .normal) pn w → wpX P ops (QA n ds Q pn) (List.range' k l.length) a w
  | [], k, e, a, w, _, _, hA, h => ⟨e, hA, h⟩
  | o :: l, k, e, a, w, hj, hl, hA, h => by
    simp only [List.all_cons, Bool.and_eq_true] at hl
    have h0 : ops[k]? = some o := by simpa using (hj 0).symm
    have hj' : ∀ j, l[j]? = ops[k + 1 + j]? := fun j => by have := hj (j + 1); simpa [Nat.add_assoc, Nat.add_comm 1 j] using this
    simp only [List.length_cons, List.range'_succ]
    unfold wpX
    simp only [h0]
    rcases opG_wp hA hok h with ⟨hw, h⟩ | ⟨hw, h⟩
    · rw [if_pos hw]
      cases hc : isComm o.op with
      | false =>
        refine .inl (opD_wp hA hc h (fun v w' h' => ?_) (fun c w' h' => ⟨hA.defs, h'⟩))
        exact regD_wp hok l (k + 1) _ _ _ hj' hl.2 (hA.put _ _ (okDst_spec hl.1)) h'
      | true =>
        obtain ⟨cs, b, sh, w₁, v, w₂, h1, h2, h3⟩ := opD_comm hA hc h
        exact .inr ⟨cs, b, sh, w₁, v, w₂, h1, h2, regD_wp hok l (k + 1) _ _ _ hj' hl.2 (hA.put _ _ (okDst_spec hl.1)) h3⟩
    · rw [if_neg (by simp [hw])]
      exact regD_wp hok l (k + 1) _ _ _ hj' hl.2 (hA.put _ _ (okDst_spec hl.1)) h

theorem effS_wp {ops : Array Oper} {S : C} {i : Nat} {r : Env → C} {pn : Pn} {Q : Ex → Env → C} (hok : ops.toList.all (okDst n) = true) (hnc : ops.toList.all (fun o => !isComm o.op) = true) (hA : Agr n ds e a)
    {K' : Act → World → Prop} (hr : ∀ e a w, Agr n ds e a → S w → r e w → K' a w) (h : effS P ops S i e r pn w) :
    wpOp P ops (QA n ds Q pn) i K' a w := by
  unfold effS at h
  unfold wpOp
  cases ho : ops[i]? with
  | none => simp only [ho] at h
  | some o =>
    simp only [ho] at h
    have hd : okDst n o = true := by
      have hm : o ∈ ops.toList := by
        obtain ⟨hl, rfl⟩ := Array.getElem?_eq_some_iff.1 ho
        exact Array.getElem_mem_toList hl
      exact List.all_eq_true.1 hok o hm
    have hcm : isComm o.op = false := by
      have hm : o ∈ ops.toList := by
        obtain ⟨hl, rfl⟩ := Array.getElem?_eq_some_iff.1 ho
        exact Array.getElem_mem_toList hl
      simpa using List.all_eq_true.1 hnc o hm
    rcases opG_wp hA hok h with ⟨hw, h⟩ | ⟨hw, h⟩
    · simp only [hw, if_true]
      refine .inl (opD_wp hA hcm h (fun v w' h' => ?_) (fun c w' h' => ⟨hA.defs, h'⟩))
      exact hr _ _ _ (hA.put _ _ (okDst_spec hd)) h'.1 h'.2
    · simp only [hw, Bool.false_eq_true, if_false]
      exact hr _ _ _ (hA.put _ _ (okDst_spec hd)) h.1 h.2

theorem opT_yields {ops : Array Oper} {S : C} {o : Oper} {K : Value → C} (hA : Agr n ds e a) (hw : Region.wanted o (yielded ops a.tmps) = true) (h : opT P S o e K w) :
    ∃ v, YieldsIf P ops S o v a ∧ K v w := by
  have hev := hA.ev
  have gen : takeS S P (semD o e) K w → ∃ v, YieldsIf P ops S o v a ∧ K v w := fun ⟨⟨v, hv, hK⟩⟩ =>
    ⟨v, .inl ⟨hw, fun w' hS => by rw [hev, ← semD_eq]; exact hv w' hS⟩, hK⟩
  have genP : pureS P (semD o e) K w → ∃ v, YieldsIf P ops S o v a ∧ K v w := fun ⟨⟨v, hv, hK⟩⟩ =>
    ⟨v, .inl ⟨hw, fun w' _ => by rw [hev, ← semD_eq]; exact hv w'⟩, hK⟩
  unfold opT at h
  generalize ho : o.op = op at h
  cases op with
  | move x => exact ⟨_, .inl ⟨hw, fun w' _ => by rw [hev]; simp only [execOp, ho, pure, Sem.run]⟩, h⟩
  | assign x => exact ⟨_, .inl ⟨hw, fun w' _ => by rw [hev]; simp only [execOp, ho, pure, Sem.run]⟩, h⟩
  | load _ _ => exact gen h
  | lookup _ _ _ _ => exact gen h
  | entry _ => exact gen h
  | call _ => exact gen h
  | _ => exact genP h

theorem drawD_wp {ops : Array Oper} {S : C} {Q : Ex → Env → C} {pn : Pn} (hok : ops.toList.all (okDst n) = true) (hnc : ops.toList.all (fun o => !isComm o.op) = true) (hns : Region.noSelect ops = true) :
    ∀ (m : Mo) (f : Nat) (l : Array Bool) (e : Env) (a : Act) (w : World), okMo ops f l m = true → Agr n ds e a → S w → drawD P ops S (Q .normal) pn m e w →
      wpAnyH P .any ops (QA n ds Q pn) S f l a w
  | .done, f, l, e, a, w, hm, hA, _, h => by
    cases f with
    | zero => exact ⟨by simpa [okMo] using hm, e, hA, h⟩
    | succ f => simp [okMo] at hm
  | .take i r, f, l, e, a, w, hm, hA, hS, h => by
    cases f with
    | zero => simp [okMo] at hm
    | succ f =>
      simp only [okMo, Bool.and_eq_true] at hm
      obtain ⟨⟨hc, hf⟩, hm⟩ := hm
      unfold drawD at h
      cases ho : ops[i]? with
      | none => simp only [ho] at h
      | some o =>
        simp only [ho] at h
        have hd : okDst n o = true := by
          have hmem : o ∈ ops.toList := by
            obtain ⟨hl, rfl⟩ := Array.getElem?_eq_some_iff.1 ho
            exact Array.getElem_mem_toList hl
          exact List.all_eq_true.1 hok o hmem
        rcases opG_wp hA hok h with ⟨hw, h⟩ | ⟨hw, h⟩
        · obtain ⟨v, hy, hK⟩ := opT_yields (ops := ops) hA hw h
          refine wpAnyH_take ho hns hf hc ?_ hy hS (drawD_wp hok hnc hns r f _ _ _ _ hm (hA.put _ _ (okDst_spec hd)) hS hK)
          rintro c a' w' ⟨h1, h2⟩
          refine ⟨?_, h2⟩
          rw [← h1]; cases o.dst <;> rfl
        · refine wpAnyH_take (v := undef) ho hns hf hc ?_ (.inr ⟨hw, rfl⟩) hS (drawD_wp hok hnc hns r f _ _ _ _ hm (hA.put _ _ (okDst_spec hd)) hS h)
          rintro c a' w' ⟨h1, h2⟩
          refine ⟨?_, h2⟩
          rw [← h1]; cases o.dst <;> rfl
  | .eff i r, f, l, e, a, w, hm, hA, hS, h => by
    cases f with
    | zero => simp [okMo] at hm
    | succ f =>
      simp only [okMo, Bool.and_eq_true, decide_eq_true_eq] at hm
      refine wpAnyH_all hm.1 (by simp) fun k hk => ?_
      obtain rfl : k = i := by simpa using hk
      exact effS_wp hok hnc hA (fun e a w hA hS h => ⟨hS, drawD_wp hok hnc hns r f _ _ _ _ hm.2 hA hS h⟩) h
  | .two i ri j rj, f, l, e, a, w, hm, hA, hS, h => by
    cases f with
    | zero => simp [okMo] at hm
    | succ f =>
      simp only [okMo, Bool.and_eq_true, decide_eq_true_eq] at hm
      obtain ⟨⟨hr, hi⟩, hj⟩ := hm
      refine wpAnyH_all hr (by simp) fun k hk => ?_
      simp only [List.mem_cons, List.not_mem_nil, or_false] at hk
      rcases hk with rfl | rfl
      · exact effS_wp hok hnc hA (fun e a w hA hS h => ⟨hS, drawD_wp hok hnc hns ri f _ _ _ _ hi hA hS h⟩) h.1
      · exact effS_wp hok hnc hA (fun e a w hA hS h => ⟨hS, drawD_wp hok hnc hns rj f _ _ _ _ hj hA hS h⟩) h.2
  | .three i ri j rj k rk, f, l, e, a, w, hm, hA, hS, h => by
    cases f with
    | zero => simp [okMo] at hm
    | succ f =>
      simp only [okMo, Bool.and_eq_true, decide_eq_true_eq] at hm
      obtain ⟨⟨⟨hr, hi⟩, hj⟩, hk'⟩ := hm
      refine wpAnyH_all hr (by simp) fun x hx => ?_
      simp only [List.mem_cons, List.not_mem_nil, or_false] at hx
      rcases hx with rfl | rfl | rfl
      · exact effS_wp hok hnc hA (fun e a w hA hS h => ⟨hS, drawD_wp hok hnc hns ri f _ _ _ _ hi hA hS h⟩) h.1
      · exact effS_wp hok hnc hA (fun e a w hA hS h => ⟨hS, drawD_wp hok hnc hns rj f _ _ _ _ hj hA hS h⟩) h.2.1
      · exact effS_wp hok hnc hA (fun e a w hA hS h => ⟨hS, drawD_wp hok hnc hns rk f _ _ _ _ hk' hA hS h⟩) h.2.2

theorem QA.mono {Q Q' : Ex → Env → C} {pn : Pn} (h : ∀ x e w, Q x e w → Q' x e w) (x : Exit) (a : Act) (w : World) (hq : QA n ds Q pn x a w) : QA n ds Q' pn x a w := by
  cases x <;> first | exact hq.elim | exact hq | exact ⟨hq.choose, hq.choose_spec.1, h _ _ _ hq.choose_spec.2⟩

theorem D_wp (hmx : P.follows .mixedOrders = true) {mo : Nat → Mo} {lv : Nat → List Nat} {pn : Pn} : ∀ (c : Code) (Q : Ex → Env → C) (e : Env) (a : Act) (w : World), okC n mo c = true →
    Agr n ds e a → D P mo lv pn c Q e w → c.wp P (QA n ds Q pn) a w
  | .skip, Q, e, a, w, _, hA, h => wp_skip ⟨e, hA, h⟩
  | .ret, Q, e, a, w, _, hA, h => wp_ret ⟨e, hA, h⟩
  | .label _, Q, e, a, w, _, hA, h => wp_label ⟨e, hA, h⟩
  | .exit _, Q, e, a, w, _, hA, h => wp_exit ⟨e, hA, h⟩
  | .goto _, Q, e, a, w, _, hA, h => wp_goto ⟨e, hA, h⟩
  | .seq x y, Q, e, a, w, hok, hA, h => by
    simp only [okC, Bool.and_eq_true] at hok
    refine wp_seq (wp_mono (D_wp hmx x _ e a w hok.1 hA h) fun x' a' w' hq => ?_)
    cases x' with
    | normal => obtain ⟨e', hA', h'⟩ := hq; exact D_wp hmx y Q e' a' w' hok.2 hA' h'
    | exit id => exact hq
    | goto l => exact hq
    | ret => exact hq
    | panic c => exact hq
    | outgrown => exact hq
  | .cond c x y, Q, e, a, w, hok, hA, h => by
    simp only [okC, Bool.and_eq_true] at hok
    unfold D at h
    replace h := h.h
    have hev := congrFun hA.ev c
    split at h
    · rename_i hv; exact wp_cond_true (hev.trans hv) (D_wp hmx x Q e a w hok.1 hA h)
    · rename_i hv; exact wp_cond_false (hev.trans hv) (D_wp hmx y Q e a w hok.2 hA h)
    · exact h.elim
  | .block id c, Q, e, a, w, hok, hA, h => by
    refine wp_block (wp_mono (D_wp hmx c _ e a w hok hA h) fun x' a' w' hq => ?_)
    cases x' with
    | exit id' =>
      obtain ⟨e', hA', h'⟩ := hq
      simp only [Exit.inBlock]
      by_cases hi : id' = id
      · subst hi
        simp only [if_true]
        have hb : Nat.beq id' id' = true := by simp
        simp only [hb, cond_true] at h'
        exact ⟨e', hA', h'⟩
      · have hb : Nat.beq id' id = false := by
          cases hb : Nat.beq id' id with
          | false => rfl
          | true => exact absurd (Nat.eq_of_beq_eq_true hb) hi
        simp only [hi, if_false]
        simp only [hb, cond_false] at h'
        exact ⟨e', hA', h'⟩
    | normal => exact hq
    | goto l => exact hq
    | ret => exact hq
    | panic c => exact hq
    | outgrown => exact hq
  | .loop c, Q, e, a, w, hok, hA, h => by
    obtain ⟨σ, I, μ, s0, h0, hstep⟩ := h.h
    refine wp_loop_state (fun s a w => ∃ e, Agr n ds e a ∧ I s ((lv (firstReg c)).map e) w) μ s0 ⟨e, hA, h0⟩ ?_
    rintro s a w ⟨e, hA, hI⟩
    refine wp_mono (D_wp hmx c _ e a w hok hA (hstep s e w hI)) fun x' a' w' hq => ?_
    cases x' with
    | normal =>
      obtain ⟨e', hA', s', h1, h2⟩ := hq
      exact ⟨s', h1, e', hA', h2⟩
    | exit id => exact hq
    | goto l => exact hq
    | ret => exact hq
    | panic c => exact hq
    | outgrown => exact hq
  | .region id ops draw, Q, e, a, w, hok, hA, h => by
    simp only [okC, Bool.and_eq_true] at hok
    cases draw with
    | false => exact wpX_region (by have := regD_wp hok.1 ops.toList 0 e a w (by simp) hok.1 hA h; rwa [Array.length_toList, ← List.range_eq_range'] at this)
    | true =>
      obtain ⟨S, hS, h⟩ := h.h
      simp only [Bool.not_true, Bool.false_or, Bool.and_eq_true] at hok
      exact wp_region_held hmx (drawD_wp hok.1 hok.2.1.1 hok.2.1.2 _ _ _ e a _ hok.2.2 hA hS h)
  | .scope _, _, _, _, _, _, _, h => h.elim
  | .rangeFunc _ _ _ _, _, _, _, _, _, _, h => h.elim
  | .refuse _, _, _, _, _, _, _, h => h.elim
end

/-- The frame at a call's beginning. -/
def env0 (args : List Value) : Env := fun t => args.getD t undef

/-- A result that lies in memory. -/
structure cellS (P : Program) (t : TypeId) (x : Value) (R : Value → C) (w : World) : Prop where
  h : ∃ ad v, x = .pointer (some ad) ∧ (loadVar t ad).run P w = .ok v w ∧ R v w

def finQ (P : Program) (rs : Array ResultVar) (R : Value → C) : Ex → Env → C
  | .normal, e | .ret, e => match rs with
    | ⟨[]⟩ => R (.tuple #[])
    | ⟨[.tmp t]⟩ => R (e t)
    | ⟨[.cell t ty]⟩ => cellS P ty (e t) R
    | ⟨[.tmp t, .tmp u]⟩ => R (.tuple #[e t, e u])
    | ⟨[.tmp t, .tmp u, .tmp v]⟩ => R (.tuple #[e t, e u, e v])
    | _ => fun _ => False
  | _, _ => fun _ => False

theorem finQ_ret {P : Program} {fn : Func} {R : Ending → World → Prop} {n : Nat} {e : Env} {a : Act} {w : World} {x : Ex} (hA : Agr n [] e a)
    (h : finQ P fn.results (fun v => R (.returned v)) x e w) : a.defers = [] ∧ ∃ v, (results fn a.tmps).run P w = .ok v w ∧ R (.returned v) w := by
  refine ⟨hA.defs, ?_⟩
  have key : ∀ (rs : Array ResultVar), fn.results = rs → finQ P rs (fun v => R (.returned v)) .ret e w → ∃ v, (results fn a.tmps).run P w = .ok v w ∧ R (.returned v) w := by
    intro rs hrs hf
    unfold finQ at hf
    simp only at hf
    split at hf
    · exact ⟨_, by simp [results, hrs], hf⟩
    · rename_i t; refine ⟨e t, ?_, hf⟩; rw [← hA.at_ t]; simp [results, hrs]
    · rename_i t ty
      obtain ⟨ad, v, hx, hl, hR⟩ := hf.h
      refine ⟨v, ?_, hR⟩
      have hx' : a.tmps.getD t undef = .pointer (some ad) := (hA.at_ t).trans hx
      have hx'' : a.tmps[t]?.getD undef = .pointer (some ad) := by simpa using hx'
      simp [results, hrs, hx'', asAddr, hl]
    · rename_i t u; refine ⟨.tuple #[e t, e u], ?_, hf⟩; rw [← hA.at_ t, ← hA.at_ u]; simp [results, hrs]
    · rename_i t u v; refine ⟨.tuple #[e t, e u, e v], ?_, hf⟩
      rw [← hA.at_ t, ← hA.at_ u, ← hA.at_ v]; simp [results, hrs, pure, bind, Sem.bind]; rfl
    · exact hf.elim
  cases x with
  | normal => exact key _ rfl h
  | ret => exact key _ rfl h
  | exit _ => exact h.elim
  | goto _ => exact h.elim

theorem callsD {P : Program} (hmx : P.follows .mixedOrders = true) {f : FuncId} {fn : Func} {c : Code} {args : List Value} {w : World} {R : Ending → World → Prop}
    (mo : Nat → Mo) (lv : Nat → List Nat) (hf : P.funcs[f]? = some fn) (hb : fn.body = some c) (hlen : args.length ≤ fn.ntmps) (hok : okC fn.ntmps mo c = true)
    (h : D P mo lv (fun c w => R (.panicked c) w) c (finQ P fn.results (fun v w => R (.returned v) w)) (env0 args) w) : Calls P f args.toArray w R := by
  refine calls_of_wp hf hb ?_
  have hA : Agr fn.ntmps [] (env0 args) { tmps := args.toArray ++ Array.replicate (fn.ntmps - args.toArray.size) undef, defers := [] } := by
    refine ⟨by simp; omega, rfl, fun t => ?_⟩
    simp only [env0]
    rcases Nat.lt_or_ge t args.length with hlt | hge
    · rw [Array.getD_eq_getD_getElem?, Array.getElem?_append_left (by simpa using hlt)]
      simp [hlt]
    · have h0 : args.getD t undef = undef := by simp [List.getD_eq_getElem?_getD, List.getElem?_eq_none hge]
      rw [h0]
      rw [Array.getD_eq_getD_getElem?, Array.getElem?_append_right (by simpa using hge)]
      simp only [Array.getElem?_replicate]
      split <;> rfl
  refine wp_mono (D_wp hmx c _ _ _ _ hok hA h) fun x a w' hq => ?_
  cases x with
  | normal => obtain ⟨e, hA', h'⟩ := hq; exact finQ_ret (x := .normal) hA' h'
  | ret => obtain ⟨e, hA', h'⟩ := hq; exact finQ_ret (x := .ret) hA' h'
  | exit id => obtain ⟨e, hA', h'⟩ := hq; exact h'.elim
  | goto l => obtain ⟨e, hA', h'⟩ := hq; exact h'.elim
  | panic ch => exact hq
  | outgrown => exact hq.elim


/-! ### A body with one label, jumped back to -/
theorem wp_scope_state {P : Program} {Q : Exit → Act → World → Prop} {act : Act} {w : World} {a b : Code} {l : Nat} (hf : findLabel (.seq a (.seq (.label l) b)) l = some (.seq .skip b)) (R : Act → World → Nat → Prop)
    (first : a.wp P (fun x a' w' => match x with
      | .normal => ∃ k, R a' w' k
      | .goto _ => False
      | x => Q x a' w') act w)
    (pass : ∀ a w k, R a w k → b.wp P (Exit.jump l (fun a' w' => ∃ k', k' < k ∧ R a' w' k') Q) a w) : (Code.scope (.seq a (.seq (.label l) b))).wp P Q act w := by
  classical
  let m : Act → World → Nat := fun a w => if h : ∃ j, R a w j ∧ ∀ i, R a w i → j ≤ i then h.choose else 0
  have hm : ∀ a w k, R a w k → R a w (m a w) ∧ m a w ≤ k := by
    intro a w k hk
    have h : ∃ j, R a w j ∧ ∀ i, R a w i → j ≤ i := exists_min k hk
    have e : m a w = h.choose := by simp only [m, dif_pos h]
    rw [e]
    exact ⟨h.choose_spec.1, h.choose_spec.2 _ hk⟩
  refine wp_scope_jumps l (fun a w => ∃ k, R a w k) m hf ?_ ?_
  · refine wp_seq (wp_mono first fun x a' w' hq => ?_)
    cases x with
    | normal =>
      obtain ⟨k, hk⟩ := hq
      refine wp_seq (wp_label (wp_mono (pass a' w' k hk) fun x a'' w'' hq => ?_))
      cases x with
      | goto l' => exact ⟨hq.1, hq.2.choose, hq.2.choose_spec.2⟩
      | _ => exact hq
    | goto l' => exact hq.elim
    | _ => exact hq
  · rintro a' w' ⟨k, hk⟩
    refine wp_seq (wp_skip (wp_mono (pass a' w' _ (hm a' w' k hk).1) fun x a'' w'' hq => ?_))
    cases x with
    | goto l' =>
      obtain ⟨h1, k', h2, h3⟩ := hq
      exact ⟨h1, ⟨k', h3⟩, Nat.lt_of_le_of_lt (hm a'' w'' k' h3).2 h2⟩
    | _ => exact hq

def cl : Code → Code
  | .seq a _ => a
  | c => c
def cr : Code → Code
  | .seq _ b => b
  | c => c
def ci : Code → Code
  | .scope c => c
  | c => c

def DS (P : Program) (mo : Nat → Mo) (lv : Nat → List Nat) (pn : Pn) (r0 a b : Code) (l : Nat) (Q : Ex → Env → C) (e : Env) : C :=
  D P mo lv pn r0 (fun x e => match x with
    | .normal => D P mo lv pn a (fun x e => match x with
      | .normal => LoopS ((lv (firstReg b)).map e) (lv (firstReg b)) (fun nxt e => D P mo lv pn b (fun x e' => match x with
        | .goto l' => bif Nat.beq l' l then nxt ((lv (firstReg b)).map e') else fun _ => False
        | x => Q x e') e)
      | .goto _ => fun _ => False
      | x => Q x e) e
    | x => Q x e) e

theorem callsDS {P : Program} (hmx : P.follows .mixedOrders = true) {f : FuncId} {fn : Func} {r0 a b : Code} {l : Nat} {args : List Value} {w : World} {R : Ending → World → Prop}
    (mo : Nat → Mo) (lv : Nat → List Nat) (hf : P.funcs[f]? = some fn) (hb : fn.body = some (.seq r0 (.scope (.seq a (.seq (.label l) b))))) (hlen : args.length ≤ fn.ntmps)
    (ok0 : okC fn.ntmps mo r0 = true) (oka : okC fn.ntmps mo a = true) (okb : okC fn.ntmps mo b = true) (hl : findLabel (.seq a (.seq (.label l) b)) l = some (.seq .skip b))
    (h : DS P mo lv (fun c w => R (.panicked c) w) r0 a b l (finQ P fn.results (fun v w => R (.returned v) w)) (env0 args) w) : Calls P f args.toArray w R := by
  refine calls_of_wp hf hb ?_
  have hA : Agr fn.ntmps [] (env0 args) { tmps := args.toArray ++ Array.replicate (fn.ntmps - args.toArray.size) undef, defers := [] } := by
    refine ⟨by simp; omega, rfl, fun t => ?_⟩
    simp only [env0]
    rcases Nat.lt_or_ge t args.length with hlt | hge
    · rw [Array.getD_eq_getD_getElem?, Array.getElem?_append_left (by simpa using hlt)]
      simp [hlt]
    · have h0 : args.getD t undef = undef := by simp [List.getD_eq_getElem?_getD, List.getElem?_eq_none hge]
      rw [h0]
      rw [Array.getD_eq_getD_getElem?, Array.getElem?_append_right (by simpa using hge)]
      simp only [Array.getElem?_replicate]
      split <;> rfl
  refine wp_mono (Q := QA fn.ntmps [] (finQ P fn.results (fun v w => R (.returned v) w)) (fun c w => R (.panicked c) w)) ?_ fun x a w' hq => ?_
  · refine wp_seq (wp_mono (D_wp hmx r0 _ _ _ _ ok0 hA h) fun x a1 w1 hq => ?_)
    cases x with
    | normal =>
      obtain ⟨e1, hA1, h1⟩ := hq
      refine wp_scope_state hl (fun act w k => ∃ e, Agr fn.ntmps [] e act ∧ ∃ (σ : Type) (I : σ → List Value → C) (μ : σ → Nat) (s : σ), μ s = k ∧ I s ((lv (firstReg b)).map e) w ∧
        ∀ s e w, I s ((lv (firstReg b)).map e) w → D P mo lv (fun c w => R (.panicked c) w) b (fun x e' => match x with
          | .goto l' => bif Nat.beq l' l then (fun vs' w' => ∃ s', μ s' < μ s ∧ I s' vs' w') ((lv (firstReg b)).map e') else fun _ => False
          | x => finQ P fn.results (fun v w => R (.returned v) w) x e') e w) ?_ ?_
      · refine wp_mono (D_wp hmx a _ _ _ _ oka hA1 h1) fun x a2 w2 hq => ?_
        cases x with
        | normal =>
          obtain ⟨e2, hA2, h2⟩ := hq
          obtain ⟨σ, I, μ, s0, h0, hstep⟩ := h2.h
          exact ⟨μ s0, e2, hA2, σ, I, μ, s0, rfl, h0, hstep⟩
        | goto l' => obtain ⟨e2, hA2, h2⟩ := hq; exact h2
        | _ => exact hq
      · rintro a2 w2 k ⟨e2, hA2, σ, I, μ, s, rfl, hI, hstep⟩
        refine wp_mono (D_wp hmx b _ _ _ _ okb hA2 (hstep s e2 w2 hI)) fun x a3 w3 hq => ?_
        cases x with
        | goto l' =>
          obtain ⟨e3, hA3, h3⟩ := hq
          cases hbq : Nat.beq l' l with
          | false => simp only [hbq, cond_false] at h3
          | true =>
            simp only [hbq, cond_true] at h3
            obtain ⟨s', h4, h5⟩ := h3
            exact ⟨Nat.eq_of_beq_eq_true hbq, μ s', h4, e3, hA3, σ, I, μ, s', rfl, h5, hstep⟩
        | _ => exact hq
    | _ => exact hq
  · cases x with
    | normal => obtain ⟨e, hA', h'⟩ := hq; exact finQ_ret (x := .normal) hA' h'
    | ret => obtain ⟨e, hA', h'⟩ := hq; exact finQ_ret (x := .ret) hA' h'
    | exit id => obtain ⟨e, hA', h'⟩ := hq; exact h'.elim
    | goto l => obtain ⟨e, hA', h'⟩ := hq; exact h'.elim
    | panic ch => exact hq
    | outgrown => exact hq.elim

end Go.Proofs.YtkonigmefmgepaaGreatDoor
