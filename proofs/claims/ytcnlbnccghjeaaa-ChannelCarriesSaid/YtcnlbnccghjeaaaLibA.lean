/- The walk of a Go function, from its frame's todo list to the call's end, over states that name only the slots that live. Conditions: none. -/
import Derived.Calls
import Derived.Orders
import Derived.OrdersHeld
import Derived.KernelRfl
set_option linter.unusedVariables false
set_option linter.unusedSimpArgs false
namespace Go.Proofs.Ytcnlbnccghjeaaa.W
open Go

/-! ### 1. What a call comes to, from the middle of its frame -/

/-- From this todo list, with these slots, in this world, the frame leaves as R says. -/
def Reach (P : Program) (b : Frame) (cs : List Frame) (R : Ending → World → Prop) (todo : List Item) (a : Act) (w : World) : Prop :=
  ∃ e w' fr, R e w' ∧ Comes P (lone (b.at a todo) cs w) (lone fr cs w') e ∧ fr.fn = b.fn ∧ fr.leaving P w' e

section
variable {P : Program} {b : Frame} {cs : List Frame} {R : Ending → World → Prop} {a a' : Act} {w w' : World} {k todo todo' : List Item}

theorem Reach.of_steps (hs : Steps P (lone (b.at a todo) cs w) (lone (b.at a' todo') cs w')) (h : Reach P b cs R todo' a' w') : Reach P b cs R todo a w :=
  let ⟨e, w2, fr, r, c, f, l⟩ := h
  ⟨e, w2, fr, r, Comes.of_steps hs c, f, l⟩
theorem Reach.of_step (hs : step P (lone (b.at a todo) cs w) = .next (lone (b.at a' todo') cs w')) (h : Reach P b cs R todo' a' w') : Reach P b cs R todo a w :=
  Reach.of_steps (.one hs) h
theorem reach_skip (h : Reach P b cs R k a w) : Reach P b cs R (.code .skip :: k) a w := .of_step step_skip h
theorem reach_seq {x y : Code} (h : Reach P b cs R (.code x :: .code y :: k) a w) : Reach P b cs R (.code (.seq x y) :: k) a w := .of_step step_seq h
theorem reach_cond {c : Operand} {x y : Code} {t : Bool} (hc : a.eval c = .bool t) (h : Reach P b cs R (.code (if t then x else y) :: k) a w) :
    Reach P b cs R (.code (.cond c x y) :: k) a w := .of_step (step_cond hc) h
theorem reach_block {id : Nat} {c : Code} (h : Reach P b cs R (.code c :: .inBlock id :: k) a w) : Reach P b cs R (.code (.block id c) :: k) a w := .of_step step_block h
theorem reach_inBlock {id : Nat} (h : Reach P b cs R k a w) : Reach P b cs R (.inBlock id :: k) a w := .of_step step_inBlock h
theorem reach_loop {c : Code} (h : Reach P b cs R (.code c :: .inLoop c :: k) a w) : Reach P b cs R (.code (.loop c) :: k) a w := .of_step step_loop h
theorem reach_inLoop {c : Code} (h : Reach P b cs R (.code c :: .inLoop c :: k) a w) : Reach P b cs R (.inLoop c :: k) a w := .of_step step_inLoop h
theorem reach_exit {id : Nat} (hx : exitTo id k = some todo') (h : Reach P b cs R todo' a w) : Reach P b cs R (.code (.exit id) :: k) a w := .of_step (step_exit hx) h

theorem reach_ret {fn : Func} {v : Value} (hfn : P.funcs[b.fn]? = some fn) (hk : b.kind = .normal) (hd : a.defers = []) (hv : (results fn a.tmps).run P w = .ok v w)
    (hR : R (.returned v) w) : Reach P b cs R (.code .ret :: k) a w :=
  ⟨.returned v, w, { b.at a (.code .ret :: k) with mode := .returning }, hR, .one step_ret, rfl, rfl, hd, hk, fn, hfn, hv⟩
theorem reach_end {fn : Func} {v : Value} (hfn : P.funcs[b.fn]? = some fn) (hk : b.kind = .normal) (hd : a.defers = []) (hv : (results fn a.tmps).run P w = .ok v w)
    (hR : R (.returned v) w) : Reach P b cs R [] a w :=
  ⟨.returned v, w, { b.at a [] with mode := .returning }, hR, .one step_end, rfl, rfl, hd, hk, fn, hfn, hv⟩

/-- What holds behind a region: the walk goes on. -/
def Qk (P : Program) (b : Frame) (cs : List Frame) (R : Ending → World → Prop) (k : List Item) : Exit → Act → World → Prop
  | .normal, a, w => Reach P b cs R k a w
  | _, _, _ => False

theorem reach_region {id : Nat} {ops : Array Oper} {d : Bool} (h : (Code.region id ops d).wp P (Qk P b cs R k) a w) : Reach P b cs R (.code (.region id ops d) :: k) a w := by
  obtain ⟨e, a', w', hq, harr⟩ := h b k cs
  cases e with
  | normal => exact Reach.of_steps harr hq
  | exit id => exact hq.elim
  | goto l => exact hq.elim
  | ret => exact hq.elim
  | panic ch => exact hq.elim
  | outgrown => exact hq.elim
end

/-- The call, from its body. -/
theorem calls_of_reach {P : Program} {f : FuncId} {fn : Func} {c : Code} {args : Array Value} {w : World} {R : Ending → World → Prop}
    (hf : P.funcs[f]? = some fn) (hb : fn.body = some c)
    (h : ∀ (b : Frame) (cs : List Frame), b.fn = f → b.kind = .normal →
      Reach P b cs R [.code c] { tmps := args ++ Array.replicate (fn.ntmps - args.size) undef, defers := [] } w) : Calls P f args w R := by
  intro cs
  let b : Frame := { (default : Frame) with fn := f, kind := .normal }
  have henter : Frame.enter P f args .normal =
      b.at { tmps := args ++ Array.replicate (fn.ntmps - args.size) undef, defers := [] } [.code c] := by
    simp [Frame.enter, Frame.at, hf, hb, b]
  obtain ⟨e, w', fr, hr, hc, hfn, hl⟩ := h b cs rfl rfl
  rw [← henter] at hc
  exact ⟨e, w', fr, hr, hc, hfn, hl⟩

/-! ### 2. States that name the living slots -/

abbrev Env := List (Nat × Value)
theorem beq_iff {x y : Nat} : Nat.beq x y = true ↔ x = y := ⟨Nat.eq_of_beq_eq_true, fun h => by subst h; exact Nat.beq_refl x⟩
def Env.get : Env → Nat → Option Value
  | [], _ => none
  | (k, v) :: r, t => bif Nat.beq k t then some v else Env.get r t
def Env.ev (e : Env) : Operand → Option Value
  | .tmp t => e.get t
  | .const v => some v
  | .global g => some (.pointer (some ⟨g, 0, none⟩))
  | .func f => some (.func (.func f) #[] #[])
def Env.rho (e : Env) (x : Operand) : Value := match e.ev x with | some v => v | none => undef
def Env.put (e : Env) (d : Option Nat) (v : Value) : Env := match d with | some d => (d, v) :: e | none => e

structure Has (n : Nat) (a : Act) (e : Env) : Prop where
  size : a.tmps.size = n
  defers : a.defers = []
  get : ∀ t v, e.get t = some v → a.tmps[t]? = some v

theorem Has.eval {n : Nat} {a : Act} {e : Env} (h : Has n a e) {x : Operand} {v : Value} (hv : e.ev x = some v) : a.eval x = v := by
  cases x with
  | tmp t =>
    have := h.get t v hv
    simp [Act.eval, Array.getD_eq_getD_getElem?, this]
  | const c => simpa [Env.ev, Act.eval] using hv
  | global g => simpa [Env.ev, Act.eval] using hv
  | func f => simpa [Env.ev, Act.eval] using hv

theorem Env.get_put (e : Env) (d : Option Nat) (v : Value) (t : Nat) : (e.put d v).get t = if d = some t then some v else e.get t := by
  cases d with
  | none => simp [Env.put]
  | some d =>
    by_cases h : d = t
    · subst h; simp [Env.put, Env.get]
    · have : Nat.beq d t = false := by
        rw [← Bool.not_eq_true, beq_iff]; exact h
      simp [Env.put, Env.get, this, h]

theorem Has.put {n : Nat} {a : Act} {e : Env} (h : Has n a e) {d : Option Nat} (hd : ∀ t, d = some t → t < n) (v : Value) : Has n (a.put d v) (e.put d v) := by
  refine ⟨?_, ?_, ?_⟩
  · cases d <;> simp [Act.put, h.size]
  · cases d <;> simp [Act.put, h.defers]
  · intro t u hu
    rw [Env.get_put] at hu
    cases d with
    | none => simpa [Act.put] using h.get t u (by simpa using hu)
    | some d =>
      have hlt : d < a.tmps.size := by rw [h.size]; exact hd d rfl
      by_cases hdt : d = t
      · subst hdt
        simp at hu
        subst hu
        simp [Act.put, hlt]
      · have hu' : e.get t = some u := by simpa [hdt] using hu
        have := h.get t u hu'
        simpa [Act.put, Array.getElem?_setIfInBounds_ne hdt] using this

/-- Fewer slots, or the same in another order: a check by computation. -/
def Env.within : Env → Env → Prop
  | [], _ => True
  | (k, v) :: r, e => e.get k = some v ∧ Env.within r e
theorem Env.get_within {e' e : Env} (h : Env.within e' e) {t : Nat} {v : Value} (ht : e'.get t = some v) : e.get t = some v := by
  induction e' with
  | nil => simp [Env.get] at ht
  | cons p r ih =>
    obtain ⟨k, u⟩ := p
    simp only [Env.within] at h
    by_cases hk : Nat.beq k t = true
    · simp [Env.get, hk] at ht
      rw [beq_iff] at hk
      subst hk ht
      exact h.1
    · simp [Env.get, hk] at ht
      exact ih h.2 ht
theorem Has.less {n : Nat} {a : Act} {e e' : Env} (h : Has n a e) (hw : Env.within e' e) : Has n a e' :=
  ⟨h.size, h.defers, fun t v ht => h.get t v (Env.get_within hw ht)⟩

/-- The living slots alone. -/
def Env.keep (e : Env) : List Nat → Env
  | [] => []
  | t :: r => match e.get t with | some v => (t, v) :: Env.keep e r | none => Env.keep e r
theorem Env.get_keep {e : Env} {l : List Nat} {t : Nat} {v : Value} (h : (e.keep l).get t = some v) : e.get t = some v := by
  induction l with
  | nil => simp [Env.keep, Env.get] at h
  | cons x r ih =>
    simp only [Env.keep] at h
    cases hx : e.get x with
    | none => rw [hx] at h; exact ih h
    | some u =>
      rw [hx] at h
      by_cases hk : Nat.beq x t = true
      · simp [Env.get, hk] at h
        rw [beq_iff] at hk
        subst hk h
        exact hx
      · simp [Env.get, hk] at h
        exact ih h
theorem Has.keep {n : Nat} {a : Act} {e : Env} (h : Has n a e) (l : List Nat) : Has n a (e.keep l) :=
  ⟨h.size, h.defers, fun t v ht => h.get t v (Env.get_keep ht)⟩

/-- At a call's begin. -/
def Env.args : List Value → Nat → Env
  | [], _ => []
  | v :: r, i => (i, v) :: Env.args r (i + 1)
theorem Env.get_args {l : List Value} : ∀ {i t : Nat} {v : Value}, (Env.args l i).get t = some v → i ≤ t ∧ l[t - i]? = some v := by
  induction l with
  | nil => intro i t v h; simp [Env.args, Env.get] at h
  | cons x r ih =>
    intro i t v h
    by_cases hk : Nat.beq i t = true
    · simp [Env.args, Env.get, hk] at h
      rw [beq_iff] at hk
      subst hk h
      simp
    · simp [Env.args, Env.get, hk] at h
      have hne : i ≠ t := fun he => hk (by rw [beq_iff]; exact he)
      obtain ⟨h1, h2⟩ := ih h
      refine ⟨by omega, ?_⟩
      have : t - i = (t - (i + 1)) + 1 := by omega
      rw [this, List.getElem?_cons_succ]
      exact h2
theorem has_enter (l : List Value) (n : Nat) (hn : l.length ≤ n) : Has n { tmps := l.toArray ++ Array.replicate (n - l.toArray.size) undef, defers := [] } (Env.args l 0) := by
  refine ⟨by simp; omega, rfl, fun t v h => ?_⟩
  obtain ⟨_, h2⟩ := Env.get_args h
  simp at h2
  have hlt : t < l.length := (List.getElem?_eq_some_iff.1 h2).1
  rw [Array.getElem?_append_left (by simpa using hlt)]
  simpa using h2

/-! ### 3. Quiet operations, carried out by computation -/

/-- Is this operation wanted? (none: that can't be told) -/
def wantedE (ops : Array Oper) (e : Env) (o : Oper) : Option Bool :=
  match o.guard with
  | none => some true
  | some (j, want) =>
    match (ops[j]?).bind (·.dst) with
    | some d => match e.get d with
      | some (.bool c) => some (c == want)
      | some (.tuple _) => some false
      | _ => none
    | none => none
def plainOp : Op → Bool
  | .select .. => false
  | _ => true
/-- All that it reads is told. -/
def seesE (e : Env) (o : Oper) : Bool := plainOp o.op && o.op.operands.all fun x => (e.ev x).isSome
/-- One operation that leaves the world alone, or changes it as it is told. -/
def pstep (P : Program) (n : Nat) (ops : Array Oper) (i : Nat) (e : Env) (w : World) : Option (Env × World) :=
  match ops[i]? with
  | none => none
  | some o =>
    bif (match o.dst with | some d => Nat.ble (d + 1) n | none => true) then
      match wantedE ops e o with
      | some true =>
        bif seesE e o then
          match (execOp e.rho o).run P w with
          | .ok (.value v) w' => some (e.put o.dst v, w')
          | .ok .skip w' => some (e.put o.dst undef, w')
          | _ => none
        else none
      | some false => some (e.put o.dst undef, w)
      | none => none
    else none
def prun (P : Program) (n : Nat) (ops : Array Oper) : List Nat → Env → World → Option (Env × World)
  | [], e, w => some (e, w)
  | i :: r, e, w => match pstep P n ops i e w with | some (e', w') => prun P n ops r e' w' | none => none

section
variable {P : Program} {n : Nat} {ops : Array Oper} {a : Act} {e e' : Env} {w w' : World} {Q : Exit → Act → World → Prop}

theorem wanted_of_E {o : Oper} {t : Bool} (h : Has n a e) (hw : wantedE ops e o = some t) : Region.wanted o (yielded ops a.tmps) = t := by
  unfold wantedE at hw
  unfold Region.wanted
  cases hg : o.guard with
  | none => rw [hg] at hw; simpa using hw
  | some p =>
    obtain ⟨j, want⟩ := p
    rw [hg] at hw
    simp only at hw ⊢
    unfold yielded
    cases hd : (ops[j]?).bind (·.dst) with
    | none => rw [hd] at hw; simp at hw
    | some d =>
      rw [hd] at hw
      simp only at hw
      cases hv : e.get d with
      | none => rw [hv] at hw; simp at hw
      | some v =>
        rw [hv] at hw
        have hget := h.get d v hv
        cases v <;> simp at hw
        · rename_i c
          simp [hget]
          rw [← hw]
        · subst hw
          simp [hget]

theorem exec_of_E {o : Oper} (h : Has n a e) (hs : seesE e o = true) : execOp a.eval o = execOp e.rho o := by
  simp only [seesE, Bool.and_eq_true] at hs
  refine execOp_congr o (fun cs b hh => ?_) (fun x hx => ?_)
  · rw [hh] at hs; simp [plainOp] at hs
  · have := Array.all_eq_true_iff_forall_mem.1 hs.2 x hx
    cases hv : e.ev x with
    | none => simp [hv] at this
    | some v => rw [h.eval hv]; simp [Env.rho, hv]

theorem wpOp_pstep {K : Act → World → Prop} {i : Nat} (h : Has n a e) (hp : pstep P n ops i e w = some (e', w'))
    (hK : ∀ a', Has n a' e' → K a' w') : wpOp P ops Q i K a w := by
  unfold pstep at hp
  unfold wpOp
  cases ho : ops[i]? with
  | none => rw [ho] at hp; simp at hp
  | some o =>
    rw [ho] at hp
    simp only at hp ⊢
    have hdst : ∀ t, o.dst = some t → t < n := by
      intro t ht
      rw [ht] at hp
      by_cases hb : Nat.ble (t + 1) n = true
      · exact Nat.le_of_ble_eq_true hb
      · simp [hb] at hp
    have hp' : (match wantedE ops e o with
      | some true =>
        bif seesE e o then
          match (execOp e.rho o).run P w with
          | .ok (.value v) w' => some (e.put o.dst v, w')
          | .ok .skip w' => some (e.put o.dst undef, w')
          | _ => none
        else none
      | some false => some (e.put o.dst undef, w)
      | none => none) = some (e', w') := by
      cases hc : (match o.dst with | some d => Nat.ble (d + 1) n | none => true) with
      | true => rw [hc] at hp; exact hp
      | false => rw [hc] at hp; simp at hp
    clear hp
    cases hw : wantedE ops e o with
    | none => rw [hw] at hp'; simp at hp'
    | some t =>
      rw [hw] at hp'
      rw [wanted_of_E h hw]
      cases t with
      | false =>
        simp at hp'
        obtain ⟨rfl, rfl⟩ := hp'
        simp only [Bool.false_eq_true, if_false]
        exact hK _ (h.put hdst _)
      | true =>
        simp only [if_true]
        refine .inl ?_
        cases hs : seesE e o with
        | false => rw [hs] at hp'; simp at hp'
        | true =>
          rw [hs] at hp'
          simp only [cond_true] at hp'
          unfold Oper.wp
          rw [exec_of_E h hs]
          generalize (execOp e.rho o).run P w = r at hp'
          cases r with
          | ok nx w2 =>
            cases nx <;> simp at hp'
            · obtain ⟨rfl, rfl⟩ := hp'; exact hK _ (h.put hdst _)
            · obtain ⟨rfl, rfl⟩ := hp'; exact hK _ (h.put hdst _)
          | halt x w2 => simp at hp'

/-- A call of a Go function. -/
theorem wpOp_call {K : Act → World → Prop} {i : Nat} {o : Oper} {f : FuncId} {args : Array Value} (h : Has n a e) (ho : ops[i]? = some o) (hdst : (match o.dst with | some d => Nat.ble (d + 1) n | none => true) = true)
    (hw : wantedE ops e o = some true) (hs : seesE e o = true) (hx : (execOp e.rho o).run P w = .ok (.enter f args) w)
    (hc : Calls P f args w fun en w' => ∃ v, en = .returned v ∧ ∀ a', Has n a' (e.put o.dst v) → K a' w') : wpOp P ops Q i K a w := by
  have hdst' : ∀ t, o.dst = some t → t < n := by
    intro t ht
    rw [ht] at hdst
    exact Nat.le_of_ble_eq_true hdst
  unfold wpOp
  simp only [ho]
  rw [wanted_of_E h hw]
  simp only [if_true]
  refine .inl ?_
  unfold Oper.wp
  rw [exec_of_E h hs, hx]
  simp only [Oper.upon]
  refine Calls.mono hc fun en w' hen => ?_
  obtain ⟨v, rfl, hk⟩ := hen
  exact hk _ (h.put hdst' _)

/-! ### 4. Regions without a draw -/

def iot : Nat → Nat → List Nat
  | _, 0 => []
  | i, c + 1 => i :: iot (i + 1) c
theorem iot_add (i k c : Nat) : iot i (k + c) = iot i k ++ iot (i + k) c := by
  induction k generalizing i with
  | zero => simp [iot]
  | succ k ih =>
    rw [show k + 1 + c = (k + c) + 1 from by omega]
    simp only [iot, List.cons_append, ih]
    rw [show i + 1 + k = i + (k + 1) from by omega]

theorem wpOps_prun {rest : List Nat} : ∀ (l : List Nat) {a : Act} {e : Env} {w : World}, Has n a e → prun P n ops l e w = some (e', w') →
    (∀ a', Has n a' e' → wpOps P ops Q rest a' w') → wpOps P ops Q (l ++ rest) a w := by
  intro l
  induction l with
  | nil =>
    intro a e w h hp hk
    simp [prun] at hp
    obtain ⟨rfl, rfl⟩ := hp
    exact hk a h
  | cons i r ih =>
    intro a e w h hp hk
    simp only [prun] at hp
    cases hs : pstep P n ops i e w with
    | none => rw [hs] at hp; simp at hp
    | some p =>
      obtain ⟨e1, w1⟩ := p
      rw [hs] at hp
      rw [List.cons_append, wpOps_cons]
      exact wpOp_pstep h hs fun a' h' => ih h' hp hk

/-- Some operations, from number i on, and those behind them. -/
theorem nd_quiet {i c : Nat} (k : Nat) (h : Has n a e) (hp : prun P n ops (iot i k) e w = some (e', w'))
    (hk : ∀ a', Has n a' e' → wpOps P ops Q (iot (i + k) c) a' w') : wpOps P ops Q (iot i (k + c)) a w := by
  rw [iot_add]
  exact wpOps_prun _ h hp hk
theorem nd_op {i c : Nat} (h : wpOp P ops Q i (wpOps P ops Q (iot (i + 1) c)) a w) : wpOps P ops Q (iot i (c + 1)) a w := by
  simp only [iot]
  rw [wpOps_cons]
  exact h
theorem nd_done {b : Frame} {cs : List Frame} {R : Ending → World → Prop} {k : List Item} {i : Nat} (h : Reach P b cs R k a w) : wpOps P ops (Qk P b cs R k) (iot i 0) a w := h
theorem nd_begin {b : Frame} {cs : List Frame} {R : Ending → World → Prop} {k : List Item} {id c : Nat} (hc : List.range ops.size = iot 0 c)
    (h : wpOps P ops (Qk P b cs R k) (iot 0 c) a w) : Reach P b cs R (.code (.region id ops false) :: k) a w :=
  reach_region (wp_region (by rw [hc]; exact h))

/-! ### 5. Regions that draw their order -/

/-- Which operations have come up. -/
def lst (c : Nat) : List Nat → Array Bool
  | [] => Array.replicate c false
  | i :: r => (lst c r).setIfInBounds i true
/-- These may be taken first, one behind the other (the last one that came up stands at the head). -/
def takesOk (ops : Array Oper) (c : Nat) : List Nat → List Nat → Bool
  | _, [] => true
  | done, i :: r => (Region.ready .any ops (lst c done)).contains i && Region.free .any ops (lst c done) i && takesOk ops c (i :: done) r
def over : List Nat → List Nat → List Nat
  | done, [] => done
  | done, i :: r => over (i :: done) r

/-- One operation that leaves the world alone and a value in its slot. -/
def qstep (P : Program) (n : Nat) (ops : Array Oper) (i : Nat) (e : Env) (w : World) : Option (Env × World) :=
  match ops[i]? with
  | none => none
  | some o =>
    match o.dst with
    | none => none
    | some d =>
      bif Nat.ble (d + 1) n then
        match wantedE ops e o with
        | some true =>
          bif seesE e o then
            match (execOp e.rho o).run P w with
            | .ok (.value v) w' => some ((d, v) :: e, w')
            | _ => none
          else none
        | some false => some ((d, undef) :: e, w)
        | none => none
      else none
/-- Several of them, each in this very world; the worlds that they leave. -/
def qrun (P : Program) (n : Nat) (ops : Array Oper) : List Nat → Env → World → Option (Env × List World)
  | [], e, _ => some (e, [])
  | i :: r, e, w => match qstep P n ops i e w with
    | some (e1, w1) => match qrun P n ops r e1 w with
      | some (e2, ws) => some (e2, w1 :: ws)
      | none => none
    | none => none
def same : List Nat → World → List World
  | [], _ => []
  | _ :: r, w => w :: same r w

theorem qstep_told {i : Nat} (hq : qstep P n ops i e w = some (e', w')) : ∃ o d v, ops[i]? = some o ∧ o.dst = some d ∧ d < n ∧ e' = (d, v) :: e ∧
    ((wantedE ops e o = some true ∧ seesE e o = true ∧ (execOp e.rho o).run P w = .ok (.value v) w') ∨ (wantedE ops e o = some false ∧ v = undef ∧ w' = w)) := by
  unfold qstep at hq
  cases ho : ops[i]? with
  | none => rw [ho] at hq; simp at hq
  | some o =>
    rw [ho] at hq
    simp only at hq
    cases hd : o.dst with
    | none => rw [hd] at hq; simp at hq
    | some d =>
      rw [hd] at hq
      simp only at hq
      by_cases hb : Nat.ble (d + 1) n = true
      · have hlt := Nat.le_of_ble_eq_true hb
        rw [hb] at hq
        simp only [cond_true] at hq
        cases hw : wantedE ops e o with
        | none => rw [hw] at hq; simp at hq
        | some t =>
          rw [hw] at hq
          cases t with
          | false =>
            simp at hq
            obtain ⟨rfl, rfl⟩ := hq
            exact ⟨o, d, undef, rfl, hd, hlt, rfl, .inr ⟨hw, rfl, rfl⟩⟩
          | true =>
            simp only at hq
            cases hs : seesE e o with
            | false => rw [hs] at hq; simp at hq
            | true =>
              rw [hs] at hq
              simp only [cond_true] at hq
              generalize hr : (execOp e.rho o).run P w = r at hq
              cases r with
              | ok nx w2 =>
                cases nx <;> simp at hq
                obtain ⟨rfl, rfl⟩ := hq
                exact ⟨o, d, _, rfl, hd, hlt, rfl, .inl ⟨hw, hs, hr⟩⟩
              | halt x w2 => simp at hq
      · simp [hb] at hq

theorem qrun_cons {i : Nat} {r : List Nat} {ws : List World} (h : qrun P n ops (i :: r) e w = some (e', ws)) :
    ∃ e1 w1 ws', qstep P n ops i e w = some (e1, w1) ∧ qrun P n ops r e1 w = some (e', ws') ∧ ws = w1 :: ws' := by
  simp only [qrun] at h
  cases hq : qstep P n ops i e w with
  | none => rw [hq] at h; simp at h
  | some p =>
    obtain ⟨e1, w1⟩ := p
    rw [hq] at h
    simp only at h
    cases hr : qrun P n ops r e1 w with
    | none => rw [hr] at h; simp at h
    | some q =>
      obtain ⟨e2, ws'⟩ := q
      rw [hr] at h
      simp at h
      exact ⟨e1, w1, ws', rfl, by rw [hr, h.1], h.2.symm⟩
theorem qrun_front : ∀ (l : List Nat) {e e' : Env} {ws : List World}, qrun P n ops l e w = some (e', ws) → ∃ pre : Env, e' = pre ++ e ∧ pre.length = l.length := by
  intro l
  induction l with
  | nil => intro e e' ws h; simp [qrun] at h; exact ⟨[], by simp [h.1], rfl⟩
  | cons i r ih =>
    intro e e' ws h
    obtain ⟨e1, w1, ws', hq, hr, _⟩ := qrun_cons h
    obtain ⟨o, d, v, _, _, _, rfl, _⟩ := qstep_told hq
    obtain ⟨pre, rfl, hl⟩ := ih hr
    exact ⟨pre ++ [(d, v)], by simp, by simp [hl]⟩

/-- In state 'a', in every world that meets S while nothing that waits for number i has come up, the operation leaves v in its slot and does nothing else. -/
inductive Desc (ops : Array Oper) (i : Nat) : Nat → Prop
  | one {j : Nat} {oj : Oper} (h : ops[j]? = some oj) (he : ∃ e ∈ oj.after, Region.binds .any e = true ∧ e.on = i) : Desc ops i j
  | more {j k : Nat} {oj : Oper} (h : ops[j]? = some oj) (he : ∃ e ∈ oj.after, Region.binds .any e = true ∧ e.on = k) (hk : Desc ops i k) : Desc ops i j
def waits (ops : Array Oper) (i : Nat) (listed : Array Bool) : Prop := ∀ j, Desc ops i j → listed.getD j false = false
def YieldsL (P : Program) (ops : Array Oper) (S : Array Bool → World → Prop) (i : Nat) (o : Oper) (v : Value) (a : Act) : Prop :=
  (Region.wanted o (yielded ops a.tmps) = true ∧ ∀ listed w, waits ops i listed → S listed w → (execOp a.eval o).run P w = .ok (.value v) w) ∨
  (Region.wanted o (yielded ops a.tmps) = false ∧ v = undef)
theorem YieldsL.of_same {S : Array Bool → World → Prop} {i : Nat} {o : Oper} {v : Value} {a a' : Act} (hy : YieldsL P ops S i o v a) (he : execOp a'.eval o = execOp a.eval o)
    (hw : Region.wanted o (yielded ops a'.tmps) = Region.wanted o (yielded ops a.tmps)) : YieldsL P ops S i o v a' := by
  unfold YieldsL at *
  rw [he, hw]
  exact hy
theorem YieldsL.wpOp {S : Array Bool → World → Prop} {i : Nat} {o : Oper} {v : Value} {a : Act} (hi : ops[i]? = some o) (hy : YieldsL P ops S i o v a)
    {K : Act → World → Prop} {w : World} {listed : Array Bool} (hw8 : waits ops i listed) (hS : S listed w) (h : K (a.put o.dst v) w) : wpOp P ops Q i K a w := by
  unfold Go.wpOp
  simp only [hi]
  rcases hy with ⟨hw, hv⟩ | ⟨hw, rfl⟩
  · simp only [hw, if_true, Oper.wp, hv listed w hw8 hS, Oper.upon]; exact .inl h
  · simp only [hw, Bool.false_eq_true, if_false]; exact h

theorem wpOp_putL {S : Array Bool → World → Prop} {i j : Nat} {oi oj : Oper} {v : Value} (hj : ops[j]? = some oj) (hap : oi.apart ops oj = true)
    (hsi : ∀ cs b, oi.op ≠ .select cs b) (hsj : ∀ cs b, oj.op ≠ .select cs b)
    (hQ : ∀ c a w, Q (.panic c) (a.put oi.dst v) w → Q (.panic c) a w) {K : Act → World → Prop} {a : Act} {w : World}
    (hy : YieldsL P ops S i oi v a) (h : wpOp P ops Q j K (a.put oi.dst v) w) :
    wpOp P ops Q j (fun a' w' => YieldsL P ops S i oi v a' ∧ K (a'.put oi.dst v) w') a w := by
  obtain ⟨h1, h2, h3⟩ := Oper.apart_spec hap
  have keep : ∀ (a : Act), YieldsL P ops S i oi v a → ∀ u, YieldsL P ops S i oi v (a.put oj.dst u) := fun a hy u =>
    hy.of_same (execOp_put oi hsi a oj.dst u h3) (wanted_put oi a oj.dst u h3)
  have keepD : ∀ d, YieldsL P ops S i oi v { a with defers := d :: a.defers } := fun d => hy.of_same rfl rfl
  unfold wpOp at *
  simp only [hj] at *
  rw [wanted_put oj a oi.dst v h1] at h
  split
  · rename_i hw
    simp only [hw, if_true] at h
    rcases h with h | ⟨hasks, hlets⟩
    case inr => exact .inr ⟨by unfold Oper.asks at *; rw [execOp_put oj hsj a oi.dst v h1] at hasks; exact hasks, hlets⟩
    refine .inl ?_
    unfold Oper.wp at *
    rw [execOp_put oj hsj a oi.dst v h1] at h
    generalize (execOp a.eval oj).run P w = r at *
    cases r with
    | ok n w' =>
      cases n <;> simp only [Oper.upon] at h ⊢
      case value u => exact ⟨keep a hy u, by rw [← Act.put_comm a v u h2]; exact h⟩
      case skip => exact ⟨keep a hy _, by rw [← Act.put_comm a v undef h2]; exact h⟩
      case defer d =>
        refine ⟨keep _ (keepD d) _, ?_⟩
        rw [← Act.put_comm _ v undef h2, ← Act.put_defers]
        exact h
      case enter f args =>
        refine Calls.mono h fun e w'' he => ?_
        cases e with
        | returned u => exact ⟨keep a hy u, by rw [← Act.put_comm a v u h2]; exact he⟩
        | panicked c => exact hQ _ _ _ he
        | outgrown => exact he
      case row row args => exact Rows.mono h fun u w'' he => ⟨keep a hy u, by rw [← Act.put_comm a v u h2]; exact he⟩
    | halt x w' =>
      cases x <;> simp only [Oper.upon] at h ⊢
      case panic u => exact hQ _ _ _ h
  · rename_i hw
    simp only [hw] at h
    exact ⟨keep a hy _, by rw [← Act.put_comm a v undef h2]; exact h⟩

/-- Whatever order is picked from here on; S is shown behind every operation that is carried out. -/
def wpAnyL (P : Program) (ops : Array Oper) (Q : Exit → Act → World → Prop) (S : Array Bool → World → Prop) : Nat → Array Bool → Act → World → Prop
  | 0, listed, a, w => Region.ready .any ops listed = [] ∧ Q .normal a w
  | fuel + 1, listed, a, w =>
    (Region.ready .any ops listed = [] → Q .normal a w) ∧
    ∀ i ∈ Region.ready .any ops listed, wpOp P ops Q i (fun a' w' => S (listed.setIfInBounds i true) w' ∧ wpAnyL P ops Q S fuel (listed.setIfInBounds i true) a' w') a w
theorem wpAny_of_L {S : Array Bool → World → Prop} : ∀ (fuel : Nat) (listed : Array Bool) (a : Act) (w : World), wpAnyL P ops Q S fuel listed a w → wpAny P .any ops Q fuel listed a w
  | 0, _, _, _, h => h
  | fuel + 1, _, _, _, h => ⟨h.1, fun i hi => wpOp_mono (fun a' w' h' => wpAny_of_L fuel _ a' w' h'.2) (h.2 i hi)⟩

theorem waits_ready {i : Nat} {listed : Array Bool} (hi : listed.getD i true = false) (hlt : i < listed.size) (hcl : ∀ j oj, ops[j]? = some oj → listed.getD j false = true → ∀ e ∈ oj.after, Region.binds .any e = true → listed.getD e.on false = true) : waits ops i listed := by
  intro j hd
  induction hd with
  | one hoj he =>
    rename_i j oj
    obtain ⟨e, he, hb, hon⟩ := he
    cases hl : listed.getD j false with
    | false => rfl
    | true =>
      have h1 := hcl j oj hoj hl e he hb
      rw [hon] at h1
      simp [hlt] at hi h1
      rw [hi] at h1
      cases h1
  | more hoj he hk ih =>
    rename_i j k oj
    obtain ⟨e, he, hb, hon⟩ := he
    cases hl : listed.getD j false with
    | false => rfl
    | true =>
      have h1 := hcl j oj hoj hl e he hb
      rw [hon, ih] at h1
      cases h1

def downClosed (ops : Array Oper) (listed : Array Bool) : Prop := listed.size = ops.size ∧ ∀ j oj, ops[j]? = some oj → listed.getD j false = true → ∀ e ∈ oj.after, Region.binds .any e = true → listed.getD e.on false = true
theorem downClosed.set {listed : Array Bool} {i : Nat} (h : downClosed ops listed) (hi : i ∈ Region.ready .any ops listed) : downClosed ops (listed.setIfInBounds i true) := by
  refine ⟨by simpa using h.1, fun j oj hoj hl e he hb => ?_⟩
  obtain ⟨h0, o, ho, hall⟩ := mem_ready.1 hi
  by_cases hij : i = j
  · subst hij
    rw [ho] at hoj
    injection hoj with hoj
    subst hoj
    exact getD_set_true (hall e he hb)
  · rw [getD_set_ne false hij] at hl
    exact getD_set_true (h.2 j oj hoj hl e he hb)
theorem downClosed.none (ops : Array Oper) : downClosed ops (Array.replicate ops.size false) :=
  ⟨by simp, fun j oj hoj hl => by
    have hlt := (Array.getElem?_eq_some_iff.1 hoj).1
    simp [hlt] at hl⟩

theorem wpAnyL_first {S : Array Bool → World → Prop} {i : Nat} {oi : Oper} {v : Value} (hi : ops[i]? = some oi) (hsel : ∀ (j : Nat) (o : Oper) cs b, ops[j]? = some o → o.op ≠ .select cs b)
    (hQ : ∀ c a w, Q (.panic c) (a.put oi.dst v) w → Q (.panic c) a w) :
    ∀ (fuel : Nat) (listed : Array Bool) (a : Act) (w : World), downClosed ops listed →
      (∀ j oj, ops[j]? = some oj → j ≠ i → listed.getD j true = false → (∀ e ∈ oj.after, Region.binds .any e = true → e.on ≠ i) → oi.apart ops oj = true) →
      i ∈ Region.ready .any ops listed → YieldsL P ops S i oi v a → S listed w → (∀ listed w, S (listed.setIfInBounds i true) w ↔ S listed w) →
      wpAnyL P ops Q S fuel (listed.setIfInBounds i true) (a.put oi.dst v) w → wpAnyL P ops Q S (fuel + 1) listed a w := by
  intro fuel
  have hwait : ∀ (listed : Array Bool), downClosed ops listed → i ∈ Region.ready .any ops listed → waits ops i listed := fun listed hd hr =>
    waits_ready (mem_ready.1 hr).1 (by rw [hd.1]; exact (Array.getElem?_eq_some_iff.1 hi).1) hd.2
  induction fuel with
  | zero =>
    intro listed a w hd _ hr hy hS hSi H
    refine ⟨fun h => (by rw [h] at hr; cases hr), fun j hj => ?_⟩
    by_cases hji : j = i
    · subst hji; exact hy.wpOp hi (hwait listed hd hr) hS ⟨(hSi _ _).2 hS, H⟩
    · have := ready_mono hj hji
      rw [H.1] at this
      cases this
  | succ fuel ih =>
    intro listed a w hd hfree hr hy hS hSi H
    refine ⟨fun h => (by rw [h] at hr; cases hr), fun j hj => ?_⟩
    by_cases hji : j = i
    · subst hji; exact hy.wpOp hi (hwait listed hd hr) hS ⟨(hSi _ _).2 hS, H⟩
    · have h1 := H.2 j (ready_mono hj hji)
      obtain ⟨hjun, oj, hoj, hall⟩ := mem_ready.1 hj
      have hnot : ∀ e ∈ oj.after, Region.binds .any e = true → e.on ≠ i := fun e he hb heq => by
        have h1 := hall e he hb
        have h0 := (mem_ready.1 hr).1
        rw [heq] at h1
        rcases Nat.lt_or_ge i listed.size with h' | h'
        · simp [h'] at h0 h1; rw [h0] at h1; cases h1
        · simp [Array.getElem?_eq_none h'] at h1
      have h2 := wpOp_putL hoj (hfree j oj hoj hji hjun hnot) (fun cs b => hsel i oi cs b hi) (fun cs b => hsel j oj cs b hoj) hQ hy h1
      have hfree' : ∀ k ok, ops[k]? = some ok → k ≠ i → (listed.setIfInBounds j true).getD k true = false →
          (∀ e ∈ ok.after, Region.binds .any e = true → e.on ≠ i) → oi.apart ops ok = true := fun k ok hk hki hun hno => by
        refine hfree k ok hk hki ?_ hno
        by_cases hjk : j = k
        · subst hjk; exact hjun
        · rw [getD_set_ne true hjk] at hun; exact hun
      refine wpOp_mono (fun a' w' h3 => ?_) h2
      have hS3 : S (listed.setIfInBounds j true) w' := by
        have := h3.2.1
        rw [Array.setIfInBounds_comm _ _ (Ne.symm hji)] at this
        exact (hSi _ _).1 this
      refine ⟨hS3, ih (listed.setIfInBounds j true) a' w' (hd.set hj) hfree' (ready_mono hr (Ne.symm hji)) h3.1 hS3 hSi ?_⟩
      rw [Array.setIfInBounds_comm _ _ hji]
      exact h3.2.2

/-- T holds all along; F e until number e has come up. -/
def SE (es : List Nat) (T : World → Prop) (F : Nat → World → Prop) (listed : Array Bool) (w : World) : Prop := T w ∧ ∀ e ∈ es, listed.getD e false = false → F e w
theorem SE.set {es : List Nat} {T : World → Prop} {F : Nat → World → Prop} {i : Nat} (h : es.contains i = false) (listed : Array Bool) (w : World) :
    SE es T F (listed.setIfInBounds i true) w ↔ SE es T F listed w := by
  have hne : ∀ e ∈ es, i ≠ e := fun e he hie => by subst hie; simp at h; exact h he
  constructor
  · rintro ⟨h1, h2⟩
    exact ⟨h1, fun e he hl => h2 e he (by rw [getD_set_ne false (hne e he)]; exact hl)⟩
  · rintro ⟨h1, h2⟩
    exact ⟨h1, fun e he hl => h2 e he (by rw [getD_set_ne false (hne e he)] at hl; exact hl)⟩

/-- Each of l may be taken first, one behind the other (the last one that came up stands at the head of 'done'); those of 'es' that are meant wait for it. -/
def takesL (ops : Array Oper) (c : Nat) (es es' : List Nat) : List Nat → List Nat → Bool
  | _, [] => true
  | done, i :: r => (Region.ready .any ops (lst c done)).contains i && Region.free .any ops (lst c done) i && !es.contains i &&
      es'.all (fun e => es.contains e && ((ops[e]?).map (fun o => o.after.any fun x => Region.binds .any x && x.on == i)).getD false) && takesL ops c es es' (i :: done) r

theorem anyL_quiet {c : Nat} {es : List Nat} (es' : List Nat) {T : World → Prop} {F : Nat → World → Prop} (hs : Region.noSelect ops = true) {b : Frame} {cs : List Frame} {R : Ending → World → Prop} {k : List Item} (hc : ops.size = c) :
    ∀ (l done : List Nat) {fuel : Nat} {a : Act} {e : Env} {w : World}, downClosed ops (lst c done) → Has n a e → takesL ops c es es' done l = true → SE es T F (lst c done) w → (∀ x ∈ es', F x w) →
    (∀ w, T w → (∀ x ∈ es', F x w) → qrun P n ops l e w = some (e', same l w)) →
    (∀ a', Has n a' e' → downClosed ops (lst c (over done l)) → SE es T F (lst c (over done l)) w → wpAnyL P ops (Qk P b cs R k) (SE es T F) fuel (lst c (over done l)) a' w) →
    wpAnyL P ops (Qk P b cs R k) (SE es T F) (l.length + fuel) (lst c done) a w := by
  intro l
  induction l with
  | nil =>
    intro done fuel a e w hd h ht hS hF hp hk
    have := hp w hS.1 hF
    simp [qrun] at this
    rw [this.1] at h
    have h2 := hk a h hd hS
    simpa [over] using h2
  | cons i r ih =>
    intro done fuel a e w hd h ht hS hF hp hk
    simp only [takesL, Bool.and_eq_true] at ht
    obtain ⟨⟨⟨⟨ht1, ht2⟩, ht3⟩, ht4⟩, ht5⟩ := ht
    have hri : i ∈ Region.ready .any ops (lst c done) := by simpa using ht1
    have hSi : es.contains i = false := by simpa using ht3
    obtain ⟨e1, w1, ws, hq, hr, hws⟩ := qrun_cons (hp w hS.1 hF)
    obtain ⟨o, d, v, ho, hd1, hlt, rfl, hcase⟩ := qstep_told hq
    have hput : Has n (a.put o.dst v) ((d, v) :: e) := by
      have := h.put (d := o.dst) (fun t ht => by rw [hd1] at ht; injection ht with ht; subst ht; exact hlt) v
      rw [hd1] at this ⊢
      exact this
    have hall : ∀ w, T w → (∀ x ∈ es', F x w) → qstep P n ops i e w = some ((d, v) :: e, w) ∧ qrun P n ops r ((d, v) :: e) w = some (e', same r w) := by
      intro w2 hS2 hF2
      obtain ⟨e3, w3, ws3, hq3, hr3, hws3⟩ := qrun_cons (hp w2 hS2 hF2)
      obtain ⟨o3, d3, v3, ho3, hd3, _, rfl, _⟩ := qstep_told hq3
      obtain ⟨pre, he, hl⟩ := qrun_front _ hr
      obtain ⟨pre3, he3, hl3⟩ := qrun_front _ hr3
      have heq := List.append_inj (he.symm.trans he3) (hl.trans hl3.symm)
      have h2 := heq.2
      simp only [List.cons.injEq, Prod.mk.injEq, and_true] at h2
      obtain ⟨rfl, rfl⟩ := h2
      simp only [same, List.cons.injEq] at hws3
      obtain ⟨rfl, rfl⟩ := hws3
      exact ⟨hq3, hr3⟩
    have hy : YieldsL P ops (SE es T F) i o v a := by
      rcases hcase with ⟨hw, hsee, _⟩ | ⟨hw, hu, _⟩
      · refine .inl ⟨wanted_of_E h hw, fun listed w2 hwt hS2 => ?_⟩
        have hF2 : ∀ x ∈ es', F x w2 := by
          intro x hx
          have h4 := List.all_eq_true.1 ht4 x hx
          simp only [Bool.and_eq_true] at h4
          obtain ⟨h5, h6⟩ := h4
          cases hox : ops[x]? with
          | none => rw [hox] at h6; simp at h6
          | some ox =>
            rw [hox] at h6
            simp only [Option.map_some, Option.getD_some] at h6
            obtain ⟨ed, hed, hb⟩ := Array.any_eq_true'.1 h6
            simp only [Bool.and_eq_true, beq_iff_eq] at hb
            exact hS2.2 x (by simpa using h5) (hwt x (.one hox ⟨ed, hed, hb.1, hb.2⟩))
        obtain ⟨o4, d4, v4, ho4, hd4, _, he4, hc4⟩ := qstep_told (hall w2 hS2.1 hF2).1
        rw [ho] at ho4
        injection ho4 with ho4
        subst ho4
        simp only [List.cons.injEq, Prod.mk.injEq, and_true] at he4
        obtain ⟨_, rfl⟩ := he4
        rcases hc4 with ⟨_, _, hr4⟩ | ⟨hw4, _, _⟩
        · rw [exec_of_E h hsee]; exact hr4
        · rw [hw] at hw4; simp at hw4
      · exact .inr ⟨wanted_of_E h hw, hu⟩
    have hS' : SE es T F (lst c (i :: done)) w := (SE.set hSi _ _).2 hS
    have hd' : downClosed ops (lst c (i :: done)) := hd.set hri
    have hstep := ih (i :: done) (fuel := fuel) hd' hput ht5 hS' hF (fun w2 hS2 hF2 => (hall w2 hS2 hF2).2) hk
    rw [show (i :: r).length + fuel = (r.length + fuel) + 1 from by simp; omega]
    exact wpAnyL_first ho (Region.noSelect_spec hs) (fun c a w hf => hf.elim) _ _ _ _ hd (Region.free_spec ho ht2) hri hy hS (fun listed w => SE.set hSi listed w) hstep

theorem dr_begin {es : List Nat} {T : World → Prop} {F : Nat → World → Prop} {b : Frame} {cs : List Frame} {R : Ending → World → Prop} {k : List Item} {id c : Nat} (hm : P.follows .mixedOrders = true) (hc : ops.size = c)
    (h : downClosed ops (lst c []) → wpAnyL P ops (Qk P b cs R k) (SE es T F) c (lst c []) a { w with drawn := w.drawn + 1 }) : Reach P b cs R (.code (.region id ops true) :: k) a w := by
  subst hc
  exact reach_region (wp_region_any hm (wpAny_of_L _ _ _ _ (h (downClosed.none ops))))
/-- The only one that may come up now. -/
theorem dr_op {es : List Nat} {T : World → Prop} {F : Nat → World → Prop} {c i fuel : Nat} {done : List Nat} (hd : downClosed ops (lst c done)) (hr : Region.ready .any ops (lst c done) = [i])
    (h : downClosed ops (lst c (i :: done)) → wpOp P ops Q i (fun a' w' => SE es T F (lst c (i :: done)) w' ∧ wpAnyL P ops Q (SE es T F) fuel (lst c (i :: done)) a' w') a w) : wpAnyL P ops Q (SE es T F) (fuel + 1) (lst c done) a w := by
  have hri : i ∈ Region.ready .any ops (lst c done) := by rw [hr]; simp
  refine ⟨fun h0 => (by rw [hr] at h0; cases h0), fun j hj => ?_⟩
  rw [hr] at hj
  simp at hj
  subst hj
  exact h (hd.set hri)
theorem dr_done {S : Array Bool → World → Prop} {b : Frame} {cs : List Frame} {R : Ending → World → Prop} {k : List Item} {c fuel : Nat} {done : List Nat} (hr : Region.ready .any ops (lst c done) = [])
    (h : Reach P b cs R k a w) : wpAnyL P ops (Qk P b cs R k) S fuel (lst c done) a w := by
  cases fuel with
  | zero => exact ⟨hr, h⟩
  | succ f => exact ⟨fun _ => h, by rw [hr]; simp⟩
end
end Go.Proofs.Ytcnlbnccghjeaaa.W
