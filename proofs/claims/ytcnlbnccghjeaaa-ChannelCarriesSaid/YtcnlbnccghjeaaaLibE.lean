/- Steps that write: results in memory, stores, function values, rows of the call's own. Conditions: none. -/
import Derived.Test.YtcnlbnccghjeaaaLibD
import Derived.Laws.CopyRow
import Derived.Laws.MakeOwn
set_option linter.unusedVariables false
set_option linter.unusedSimpArgs false
namespace Go.Proofs.Ytcnlbnccghjeaaa.W
open Go

/-! ### 1. Results that lie in memory -/

def resL (P : Program) (w : World) (f : Nat → Value) : List ResultVar → List Value → Prop
  | [], [] => True
  | .tmp t :: r, v :: vs => f t = v ∧ resL P w f r vs
  | .cell t T :: r, v :: vs => (∃ ad, f t = .pointer (some ad) ∧ (loadVar T ad).run P w = .ok v w) ∧ resL P w f r vs
  | _, _ => False
theorem resL_run {P : Program} {w : World} {f : Nat → Value} : ∀ {rs : List ResultVar} {vs : List Value}, resL P w f rs vs →
    (rs.mapM (resOne f)).run P w = .ok vs w
  | [], [], _ => by simp
  | .tmp t :: r, v :: vs, h => by
    have ih := resL_run h.2
    simp [List.mapM_cons, resOne, ih, h.1]
  | .cell t T :: r, v :: vs, h => by
    obtain ⟨⟨ad, h1, h2⟩, h3⟩ := h
    have ih := resL_run h3
    simp [List.mapM_cons, resOne, ih, h1, h2, asAddr]
  | [], _ :: _, h => h.elim
  | .tmp _ :: _, [], h => h.elim
  | .cell _ _ :: _, [], h => h.elim
theorem resF_run {P : Program} {w : World} {fn : Func} {f : Nat → Value} (rs : List ResultVar) (vs : List Value) (v : Value) (hr : fn.results.toList = rs) (h : resL P w f rs vs) (hv : (if h : vs.toArray.size = 1 then vs.toArray[0] else .tuple vs.toArray) = v) :
    (resultsF fn f).run P w = .ok v w := by
  subst hr
  have h1 := resL_run h
  unfold resultsF
  simp only [Array.mapM_eq_mapM_toList]
  simp only [Sem.run_bind, bind_map_left, h1, Result.andThen_ok, Sem.run_pure]
  rw [← hv]
/-- What a pointer to one cell, or to several, loads. -/
theorem loadVar_one {P : Program} {w : World} {T : TypeId} {ad : Addr} {v : Value} (hT : (loadVar T ad) = (load ad) ∨ (loadVar T ad).run P w = (load ad : Sem Value).run P w) (h : w.cell? ad = some v) : (loadVar T ad).run P w = .ok v w := by
  rcases hT with hT | hT <;> rw [hT] <;> simp [load, Sem.run, h]
theorem loadVar_many {P : Program} {w : World} {T : TypeId} {ad : Addr} {l : List Value} (s : Nat) (hl : l.length = s) (hT : (loadVar T ad).run P w = (do let vs ← loadCells ad s; pure (.agg vs) : Sem Value).run P w) (h : ∀ j, j < s → w.cell? (ad.add j) = some (cells l j)) : (loadVar T ad).run P w = .ok (.agg l.toArray) w := by
  subst hl
  rw [hT]
  have h2 := run_loadCells_list (P := P) w ad l (fun j v hj => by
    have hlt := (List.getElem?_eq_some_iff.1 hj).1
    rw [h j hlt, ← cells_get l j hlt]
    exact hj)
  simp [Sem.run_bind, h2]

/-! ### 2. Stores -/

/-- A store: where to, and the cells. -/
def stq (P : Program) (o : Oper) (ρ : Operand → Value) : Option (Addr × List Value) :=
  match o.op with
  | .store T a x =>
    match ρ a, P.info? T with
    | .pointer (some ad), some inf => bif Nat.beq (ρ x).cells.size inf.size then some (ad, (ρ x).cells.toList) else none
    | _, _ => none
  | _ => none
def allOne (l : List Value) : Bool := l.all fun v => v.oneCell'
theorem stq_run {P : Program} {o : Oper} {ρ : Operand → Value} {w : World} {m : Mem} {z : Base} {G : List Grp} {b off : Nat} {l vs : List Value} {t : TypeId} (h : stq P o ρ = some (⟨b, off, none⟩, vs))
    (h1 : allOne vs = true) (hfit : off + vs.length ≤ l.length) (hst : St z w m ([(b, .cells l.toArray t (0, 0))] :: G)) (l' : List Value) (hl : l.take off ++ vs ++ l.drop (off + vs.length) = l') :
    ∃ w', (execOp ρ o).run P w = .ok .skip w' ∧ St z w' m ([(b, .cells l'.toArray t (0, 0))] :: G) := by
  subst hl
  have hg := hst.get (b := b) (o := .cells l.toArray t (0, 0)) (by simp)
  have hrun := run_storeCells_at P b off t vs 0 l.toArray w hg (by simpa using hfit) (fun v hv => List.all_eq_true.1 h1 v hv)
  refine ⟨w.setRow b (l.take off ++ vs ++ l.drop (off + vs.length)).toArray, ?_, ?_⟩
  · unfold stq at h
    split at h
    · rename_i T a x ho
      split at h
      · rename_i ad inf ha hT
        by_cases hs : Nat.beq (ρ x).cells.size inf.size = true
        · simp [hs] at h
          obtain ⟨rfl, rfl⟩ := h
          have hsz : (ρ x).cells.size = inf.size := beq_iff.1 hs
          unfold execOp
          simp only [Nat.add_zero, List.toList_toArray] at hrun
          simp [ho, ha, Instr.storeAt, Instr.sureAddr, storeVar, sizeOf, typeInfo, hT, hsz, hrun]
        · simp [hs] at h
      · cases h
    · cases h
  · refine hst.changed rfl rfl rfl (setRow_heap w b _ _ t _ hg) (fun k u hk hu => by rw [setRow_other w b k _ hk]; exact hu)

/-! ### 3. Function values -/

def Callable (P : Program) (f : FuncId) : Prop := ∀ (args : Array Value) (w : World), (callFunc f args).run P w = .ok (.enter f args) w
theorem callable_of {P : Program} {f : FuncId} {fn : Func} (h : P.funcs[f]? = some fn) (h1 : (fn.name == "runtime.NumGoroutine") = false) (h2 : fn.body.isNone = false) : Callable P f := by
  intro args w
  have h3 : ¬ fn.name = "runtime.NumGoroutine" := by simpa using h1
  have h4 : ¬ fn.body = none := by intro hh; rw [hh] at h2; simp at h2
  unfold callFunc
  simp [h, h3, h4, program, Sem.run]
/-- A call of a function value that is told. -/
def cvq (o : Oper) (ρ : Operand → Value) : Option (FuncId × Array Value) :=
  match o.op with
  | .call c => match c.callee with
    | .value f => match ρ f with
      | .func (.func fid) first cap => some (fid, first ++ c.args.map ρ ++ cap)
      | _ => none
    | _ => none
  | _ => none
theorem cvq_run {P : Program} {o : Oper} {ρ : Operand → Value} {w : World} {f : FuncId} {args : Array Value} (h : cvq o ρ = some (f, args)) (hc : Callable P f) : (execOp ρ o).run P w = .ok (.enter f args) w := by
  unfold cvq at h
  split at h
  · rename_i c ho
    split at h
    · rename_i g hg
      split at h
      · rename_i fid first cap hf
        simp only [Option.some.injEq, Prod.mk.injEq] at h
        obtain ⟨rfl, rfl⟩ := h
        unfold execOp
        simp only [ho, resolve, hg, hf, Deferred.ofValue]
        simp [Sem.run_bind, invoke, hc _ w]
      · cases h
    · cases h
  · cases h

/-! ### 4. A block of the call's own stays from now on -/

theorem box_at {m : Mem} {z : Base} {w : World} {G : List Grp} {b : Nat} {l : List Value} {t : TypeId} {fr : Nat × Nat} (h : St z w m ([(b, .cells l.toArray t fr)] :: G)) (s : Nat) (hs : l.length = s) :
    At (m.add [(b, .cells l.toArray t fr)]) ⟨b, 0, none⟩ s (cells l) := by
  subst hs
  refine ⟨rfl, l.toArray, t, fr, h.add_mem (by simp), fun j hj => ?_⟩
  simp [cells_get l j hj]
end Go.Proofs.Ytcnlbnccghjeaaa.W
