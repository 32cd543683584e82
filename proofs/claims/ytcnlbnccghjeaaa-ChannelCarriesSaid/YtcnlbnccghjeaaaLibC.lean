/- The steps of a walk, one law an operation. Conditions: none. -/
import Derived.Test.YtcnlbnccghjeaaaLibB
import Derived.Laws.Cells
set_option linter.unusedVariables false
set_option linter.unusedSimpArgs false
namespace Go.Proofs.Ytcnlbnccghjeaaa.W
open Go

/-! ### 1. One operation, told -/

def opAt (ops : Array Oper) (i : Nat) : Oper := match ops[i]? with | some o => o | none => default
/-- Number i is wanted, all that it reads is told, its slot is d. -/
def chk (n : Nat) (ops : Array Oper) (i : Nat) (e : Env) (d : Option Nat) : Bool :=
  match ops[i]? with
  | some o => (match d, o.dst with | some x, some y => Nat.beq x y && Nat.ble (x + 1) n | none, none => true | _, _ => false) && (match wantedE ops e o with | some t => t | none => false) && seesE e o
  | none => false

section
variable {P : Program} {n : Nat} {ops : Array Oper} {i : Nat} {a : Act} {e e' : Env} {w w' : World} {Q : Exit → Act → World → Prop} {K : Act → World → Prop} {v : Value}

theorem chk_told {d : Option Nat} (h : chk n ops i e d = true) : ops[i]? = some (opAt ops i) ∧ (opAt ops i).dst = d ∧ (∀ t, d = some t → t < n) ∧ wantedE ops e (opAt ops i) = some true ∧ seesE e (opAt ops i) = true := by
  unfold chk at h
  unfold opAt
  cases ho : ops[i]? with
  | none => rw [ho] at h; simp at h
  | some o =>
    rw [ho] at h
    simp only [Bool.and_eq_true] at h
    obtain ⟨⟨h1, h2⟩, h3⟩ := h
    refine ⟨rfl, ?_, ?_, ?_, h3⟩
    · cases d <;> cases hd : o.dst <;> simp [hd] at h1 ⊢
      exact h1.1.symm
    · intro t ht
      subst ht
      cases hd : o.dst <;> simp [hd] at h1
      exact h1.2
    · cases hw : wantedE ops e o with
      | none => rw [hw] at h2; simp at h2
      | some t => rw [hw] at h2; simp at h2; rw [h2]

theorem q_of {d : Nat} (hk : chk n ops i e (some d) = true) (hx : (execOp e.rho (opAt ops i)).run P w = .ok (.value v) w') : qstep P n ops i e w = some ((d, v) :: e, w') := by
  obtain ⟨h1, h2, h3, h4, h5⟩ := chk_told hk
  unfold qstep
  have h6 : Nat.ble (d + 1) n = true := Nat.ble_eq_true_of_le (h3 d rfl)
  simp [h1, h2, h6, h4, h5, hx]
theorem p_of {d : Option Nat} (hk : chk n ops i e d = true) (hx : (execOp e.rho (opAt ops i)).run P w = .ok (.value v) w') : pstep P n ops i e w = some (e.put d v, w') := by
  obtain ⟨h1, h2, h3, h4, h5⟩ := chk_told hk
  unfold pstep
  simp only [h1, h2, h4, h5, hx]
  cases d with
  | none => rfl
  | some d =>
    have h6 : Nat.ble (d + 1) n = true := Nat.ble_eq_true_of_le (h3 d rfl)
    simp only [h6]
    rfl
theorem p_of_skip {d : Option Nat} (hk : chk n ops i e d = true) (hx : (execOp e.rho (opAt ops i)).run P w = .ok .skip w') : pstep P n ops i e w = some (e.put d undef, w') := by
  obtain ⟨h1, h2, h3, h4, h5⟩ := chk_told hk
  unfold pstep
  simp only [h1, h2, h4, h5, hx]
  cases d with
  | none => rfl
  | some d =>
    have h6 : Nat.ble (d + 1) n = true := Nat.ble_eq_true_of_le (h3 d rfl)
    simp only [h6]
    rfl

/-! ### 2. The regions' steps: 'nd' without a draw, 'dr' with one -/

def kept (live : List Nat) : Option (Env × World) → Option (Env × World)
  | some (e, w) => some (e.keep live, w)
  | none => none
theorem kept_told {live : List Nat} {x : Option (Env × World)} (h : kept live x = some (e', w')) : ∃ e0, x = some (e0, w') ∧ e' = e0.keep live := by
  cases x with
  | none => simp [kept] at h
  | some p =>
    obtain ⟨e0, w0⟩ := p
    simp [kept] at h
    obtain ⟨h1, h2⟩ := h
    subst h1 h2
    exact ⟨e0, rfl, rfl⟩
def kept2 (live : List Nat) : Option (Env × List World) → Option (Env × List World)
  | some (e, w) => some (e.keep live, w)
  | none => none

theorem nd_q {i c : Nat} (k : Nat) (live : List Nat) (hs : Has n a e) (e' : Env) (hp : kept live (prun P n ops (iot i k) e w) = some (e', w))
    (hk : ∀ a', Has n a' e' → wpOps P ops Q (iot (i + k) c) a' w) : wpOps P ops Q (iot i (k + c)) a w := by
  obtain ⟨e0, h1, rfl⟩ := kept_told hp
  exact nd_quiet k hs h1 fun a' h => hk a' (h.keep live)
theorem nd_v {i c : Nat} (d : Nat) (v : Value) (hs : Has n a e) (hc : chk n ops i e (some d) = true) (hx : (execOp e.rho (opAt ops i)).run P w = .ok (.value v) w)
    (hk : ∀ a', Has n a' ((d, v) :: e) → wpOps P ops Q (iot (i + 1) c) a' w) : wpOps P ops Q (iot i (c + 1)) a w :=
  nd_op (wpOp_pstep hs (p_of hc hx) hk)
/-- An operation that changes the world, in either kind of region. -/
theorem op_v (d : Option Nat) (v : Value) (hs : Has n a e) (hc : chk n ops i e d = true) (hx : (execOp e.rho (opAt ops i)).run P w = .ok (.value v) w')
    (hk : ∀ a', Has n a' (e.put d v) → K a' w') : wpOp P ops Q i K a w := wpOp_pstep hs (p_of hc hx) hk
theorem op_s (d : Option Nat) (hs : Has n a e) (hc : chk n ops i e d = true) (hx : (execOp e.rho (opAt ops i)).run P w = .ok .skip w')
    (hk : ∀ a', Has n a' (e.put d undef) → K a' w') : wpOp P ops Q i K a w := wpOp_pstep hs (p_of_skip hc hx) hk
theorem op_call {f : FuncId} {args : Array Value} (d : Option Nat) (hs : Has n a e) (hc : chk n ops i e d = true) (hx : (execOp e.rho (opAt ops i)).run P w = .ok (.enter f args) w)
    (hcall : Calls P f args w fun en w' => ∃ v, en = .returned v ∧ ∀ a', Has n a' (e.put d v) → K a' w') : wpOp P ops Q i K a w := by
  obtain ⟨h1, h2, h3, h4, h5⟩ := chk_told hc
  have h6 : (match (opAt ops i).dst with | some d => Nat.ble (d + 1) n | none => true) = true := by
    rw [h2]
    cases d with
    | none => rfl
    | some d => exact Nat.ble_eq_true_of_le (h3 d rfl)
  refine wpOp_call hs h1 h6 h4 h5 hx ?_
  rw [h2]
  exact hcall

theorem dr_q {c fuel : Nat} {es done : List Nat} {T : World → Prop} {F : Nat → World → Prop} {b : Frame} {cs : List Frame} {R : Ending → World → Prop} {k : List Item} (l live : List Nat) (es' : List Nat)
    (hs : Has n a e) (hd : downClosed ops (lst c done)) (hS : SE es T F (lst c done) w) (hsel : Region.noSelect ops = true) (hc : ops.size = c) (e0 e' : Env) (hke : e0.keep live = e') (ht : takesL ops c es es' done l = true) (hF : ∀ x ∈ es', F x w)
    (hp : ∀ w, T w → (∀ x ∈ es', F x w) → qrun P n ops l e w = some (e0, same l w))
    (hk : ∀ a', Has n a' e' → downClosed ops (lst c (over done l)) → SE es T F (lst c (over done l)) w → wpAnyL P ops (Qk P b cs R k) (SE es T F) fuel (lst c (over done l)) a' w) :
    wpAnyL P ops (Qk P b cs R k) (SE es T F) (l.length + fuel) (lst c done) a w := by
  subst hke
  exact anyL_quiet es' hsel hc l done hd hs ht hS hF hp fun a' h hd' hS' => hk a' (h.keep live) hd' hS'
theorem dr_v {c fuel : Nat} {es done : List Nat} {T : World → Prop} {F : Nat → World → Prop} {b : Frame} {cs : List Frame} {R : Ending → World → Prop} {k : List Item} (i d : Nat) (v : Value) (es' : List Nat)
    (hs : Has n a e) (hd : downClosed ops (lst c done)) (hS : SE es T F (lst c done) w) (hsel : Region.noSelect ops = true) (hc : ops.size = c) (ht : takesL ops c es es' done [i] = true) (hF : ∀ x ∈ es', F x w)
    (hch : chk n ops i e (some d) = true) (hx : ∀ w, T w → (∀ x ∈ es', F x w) → (execOp e.rho (opAt ops i)).run P w = .ok (.value v) w)
    (hk : ∀ a', Has n a' ((d, v) :: e) → downClosed ops (lst c (i :: done)) → SE es T F (lst c (i :: done)) w → wpAnyL P ops (Qk P b cs R k) (SE es T F) fuel (lst c (i :: done)) a' w) :
    wpAnyL P ops (Qk P b cs R k) (SE es T F) (1 + fuel) (lst c done) a w :=
  anyL_quiet es' hsel hc [i] done hd hs ht hS hF (fun w2 hT hF2 => by simp [qrun, q_of hch (hx w2 hT hF2), same]) hk
end

/-! ### 3. Loads -/

def ld1 (ad : Addr) : Sem Next := Sem.load .plain ad fun v => .pure (.value v)
def ldN (ad : Addr) (s : Nat) : Sem Next := do let vs ← loadCells ad s; pure (.value (.agg vs))
theorem ld1_run {P : Program} {w : World} {ad : Addr} {v : Value} {r : Result Next} (hr : r = (ld1 ad).run P w) (h : w.cell? ad = some v) : r = .ok (.value v) w := by
  rw [hr]; simp [ld1, Sem.run, h]
def cells (l : List Value) (j : Nat) : Value := match l, j with
  | [], _ => undef
  | v :: _, 0 => v
  | _ :: r, j + 1 => cells r j
theorem cells_get : ∀ (l : List Value) (j : Nat), j < l.length → l[j]? = some (cells l j)
  | [], _, h => by simp at h
  | v :: r, 0, _ => by simp [cells]
  | v :: r, j + 1, h => by simpa [cells] using cells_get r j (by simpa using h)
theorem add_some (ad : Addr) (h : ad.spot = none) (j : Nat) : ad.add j = ⟨ad.block, ad.off + j, none⟩ := by
  unfold Addr.add
  split
  · rename_i h0; subst h0; cases ad; simp_all
  · rfl
theorem ldN_run {P : Program} {w : World} {ad : Addr} {l : List Value} {r : Result Next} (s : Nat) (hl : l.length = s) (hr : r = (ldN ad s).run P w) (h : ∀ j, j < s → w.cell? (ad.add j) = some (cells l j)) : r = .ok (.value (.agg l.toArray)) w := by
  subst hl
  rw [hr]
  have h2 := run_loadCells_list (P := P) w ad l (fun j v hj => by
    have hlt := (List.getElem?_eq_some_iff.1 hj).1
    rw [h j hlt, ← cells_get l j hlt]
    exact hj)
  unfold ldN
  simp [Sem.run_bind, h2]
theorem At.cell0 {z : Base} {w : World} {m : Mem} {G : List Grp} {ad : Addr} {s : Nat} {c : Nat → Value} (h : At m ad s c) (hst : St z w m G) (hj : 0 < s) : w.cell? ad = some (c 0) := by
  have h1 := h.cell hst hj
  have h2 := h.1
  rw [Nat.add_zero] at h1
  cases ad
  simp at h2
  subst h2
  exact h1
theorem At.all {z : Base} {w : World} {m : Mem} {G : List Grp} {ad : Addr} {s : Nat} {c : Nat → Value} (h : At m ad s c) (hst : St z w m G) : ∀ j, j < s → w.cell? (ad.add j) = some (c j) := fun j hj => by
  rw [add_some ad h.1]; exact h.cell hst hj
theorem At.conv {m : Mem} {ad : Addr} {s : Nat} {c c' : Nat → Value} (h : At m ad s c) (he : ∀ j, j < s → c j = c' j) : At m ad s c' := by
  obtain ⟨h1, arr, E, fr, h2, h3⟩ := h
  exact ⟨h1, arr, E, fr, h2, fun j hj => by rw [h3 j hj, he j hj]⟩
/-- A cell of an owned block. -/
theorem St.ocell {z : Base} {w : World} {m : Mem} (pre : List Grp) {b : Nat} {l : List Value} {t : TypeId} {fr : Nat × Nat} {post : List Grp} (h : St z w m (pre ++ [(b, .cells l.toArray t fr)] :: post)) (j : Nat) (hj : j < l.length) :
    w.cell? ⟨b, j, none⟩ = some (cells l j) := by
  have := (h.front pre).get (b := b) (o := .cells l.toArray t fr) (by simp)
  simp [World.cell?, this, cells_get l j hj]
theorem St.ocells {z : Base} {w : World} {m : Mem} (pre : List Grp) {b : Nat} {l : List Value} {t : TypeId} {fr : Nat × Nat} {post : List Grp} (h : St z w m (pre ++ [(b, .cells l.toArray t fr)] :: post)) (j : Nat) (hj : j < l.length) :
    w.cell? ((⟨b, 0, none⟩ : Addr).add j) = some (cells l j) := by
  rw [add_some _ rfl, Nat.zero_add]
  exact h.ocell pre j hj

/-! ### 4. An element's address -/

def ix {α : Type} (xs : List α) (i : Int) : Option α := if 0 ≤ i then xs[i.toNat]? else none
theorem ix_some {α : Type} {xs : List α} {i : Int} {x : α} (h : ix xs i = some x) : 0 ≤ i ∧ i < xs.length ∧ ∃ hl : i.toNat < xs.length, xs[i.toNat] = x := by
  unfold ix at h
  split at h
  · rename_i h0
    obtain ⟨hl, hx⟩ := List.getElem?_eq_some_iff.1 h
    exact ⟨h0, by omega, hl, hx⟩
  · cases h
/-- An element's address: its row, the row's length, an element's size, the index. -/
def ixq (P : Program) (o : Oper) (ρ : Operand → Value) : Option (Option Addr × Nat × Nat × Int) :=
  match o.op with
  | .indexAddr T x i =>
    match ρ x, ρ i, P.underlying T with
    | .slice base len _, .int _ j, some (.slice E) => match P.info? E with
      | some inf => some (base, len, inf.size, j)
      | none => none
    | _, _, _ => none
  | _ => none
theorem ixq_run {P : Program} {o : Oper} {ρ : Operand → Value} {w : World} {a : Addr} {len sz : Nat} {j : Int} (h : ixq P o ρ = some (some a, len, sz, j)) (h0 : 0 ≤ j) (h1 : j < len) :
    (execOp ρ o).run P w = .ok (.value (.pointer (some (a.add (j.toNat * sz))))) w := by
  unfold ixq at h
  split at h
  · rename_i T x i ho
    split at h
    · rename_i base len' cap k j' E hx hi hT
      split at h
      · rename_i inf hE
        simp only [Option.some.injEq, Prod.mk.injEq] at h
        obtain ⟨rfl, rfl, rfl, rfl⟩ := h
        have hc : 0 ≤ j' ∧ j' < (len' : Int) := ⟨h0, h1⟩
        unfold execOp
        simp [ho, hx, hi, Instr.indexAt, asIntOf, run_underlying hT, sizeOf, typeInfo, hE, hc]
      · cases h
    · cases h
  · cases h
theorem Row.ix {α : Type} {K : Kd α} {m : Mem} {a : Option Addr} {cap : Nat} {xs : List α} (h : Row K m a cap xs) {i : Int} {x : α} (hx : W.ix xs i = some x) :
    ∃ ad c, At m ad K.size c ∧ K.rep m c x ∧ ∀ {P : Program} {w : World} {o : Oper} {ρ : Operand → Value}, ixq P o ρ = some (a, xs.length, K.size, i) → (execOp ρ o).run P w = .ok (.value (.pointer (some ad))) w := by
  obtain ⟨h0, h1, hl, rfl⟩ := ix_some hx
  obtain ⟨ad, c, ha, hat, hrep⟩ := h.at hl
  refine ⟨_, c, hat, hrep, fun {P w o ρ} hq => ?_⟩
  rw [ha] at hq
  exact ixq_run hq h0 h1

end Go.Proofs.Ytcnlbnccghjeaaa.W
