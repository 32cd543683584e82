/- The words of the printed functions, and the steps that they need: continuations, nil, aggregates' equality, copy, clear, cuts. Conditions: none. -/
import Derived.Test.YtcnlbnccghjeaaaLibJ
import Derived.Laws.StructEq
import Derived.Laws.Pointers
import Derived.Laws.Cover3
import Derived.Laws.CopyRow
set_option linter.unusedVariables false
set_option linter.unusedSimpArgs false
namespace Go.Proofs.Ytcnlbnccghjeaaa.W
open Go

/-! ### 1. Continuations -/

abbrev M (α : Type) := (α → Prop) → Prop
def ofO {α : Type} (o : Option α) (Q : α → Prop) : Prop := ∃ x, o = some x ∧ Q x
theorem ofO_el {α : Type} {o : Option α} {Q : α → Prop} (h : ofO o Q) : ∃ x, o = some x ∧ Q x := h
theorem ofO_some {α : Type} {o : Option α} {Q : α → Prop} {x : α} (h : o = some x) (hq : Q x) : ofO o Q := ⟨x, h, hq⟩
/-- Go can tell an empty slice that is nil from one that is not: both ways must do. -/
def anyNil {α : Type} (xs : List α) (A B : Prop) : Prop := (xs = [] → A) ∧ B
def onPtr {α : Type} (x : Option α) (A : Prop) (B : α → Prop) : Prop := match x with | none => A | some y => B y
theorem onPtr_none {α : Type} {x : Option α} {A : Prop} {B : α → Prop} (hx : x = none) (h : onPtr x A B) : A := by subst hx; exact h
theorem onPtr_some {α : Type} {x : Option α} {A : Prop} {B : α → Prop} {y : α} (hx : x = some y) (h : onPtr x A B) : B y := by subst hx; exact h
def look {κ ν : Type} [BEq κ] (kvs : List (κ × ν)) (k : κ) (zero : ν) (Q : ν → Bool → Prop) : Prop := match mget kvs k with | some v => Q v true | none => Q zero false
theorem look_el {κ ν : Type} [BEq κ] {kvs : List (κ × ν)} {k : κ} {zero : ν} {Q : ν → Bool → Prop} (h : look kvs k zero Q) : ∃ v ok, mlook kvs k zero = some (v, ok) ∧ Q v ok := by
  unfold look at h
  unfold mlook
  cases hg : mget kvs k with
  | none => rw [hg] at h; exact ⟨zero, false, rfl, h⟩
  | some v => rw [hg] at h; exact ⟨v, true, rfl, h⟩
theorem Sl.len {α : Type} {K : Kd α} {bytes : Nat} {m : Mem} {a : Option Addr} {cap : Nat} {xs : List α} (h : Sl K bytes m a cap xs) : xs.length ≤ reach := h.2.2

theorem Has.kept {n : Nat} {a : Act} {e : Env} (h : Has n a e) (l : List Nat) (e' : Env) (hk : e.keep l = e') : Has n a e' := by subst hk; exact h.keep l

def inRb : IntKind → Int → Bool
  | .i64, x => decide (-9223372036854775808 ≤ x ∧ x ≤ 9223372036854775807)
  | .i32, x => decide (-2147483648 ≤ x ∧ x ≤ 2147483647)
  | .i16, x => decide (-32768 ≤ x ∧ x ≤ 32767)
  | .i8, x => decide (-128 ≤ x ∧ x ≤ 127)
  | .u64, x => decide (0 ≤ x ∧ x ≤ 18446744073709551615)
  | .u32, x => decide (0 ≤ x ∧ x ≤ 4294967295)
  | .u16, x => decide (0 ≤ x ∧ x ≤ 65535)
  | .u8, x => decide (0 ≤ x ∧ x ≤ 255)
theorem inr_of {k : IntKind} {x : Int} (h : inRb k x = true) : InR k x := by cases k <;> simpa [inRb, InR] using h

/-! ### 2. nil -/

def isNil (a : Option Addr) : Bool := match a with | none => true | some _ => false
theorem nilT {a : Option Addr} (h : a = none) : isNil a = true := by subst h; rfl
theorem nilF {a : Option Addr} (h : ¬ a = none) : isNil a = false := by cases a with | none => exact absurd rfl h | some x => rfl
theorem Sl.nil_empty {α : Type} {K : Kd α} {bytes : Nat} {m : Mem} {a : Option Addr} {cap : Nat} {xs : List α} (h : Sl K bytes m a cap xs) (ha : a = none) : xs = [] := by
  cases xs with
  | nil => rfl
  | cons x r => obtain ⟨ad, h1, _⟩ := h.1.2 0 (by simp); rw [ha] at h1; cases h1
theorem OwnSl.nil_empty {α : Type} {K : Kd α} {bytes : Nat} {E : TypeId} {m : Mem} {a : Option Addr} {cap : Nat} {I : Grp} {xs : List α} (h : OwnSl K bytes E m a cap I xs) (ha : a = none) : xs = [] := by
  obtain ⟨_, _, h⟩ := h
  rcases h with ⟨_, _, h, _⟩ | ⟨b, arr, h, _⟩
  · exact h
  · rw [ha] at h; cases h
/-- An operand against nil: is it '=='? is it nil? -/
def nlq (P : Program) (o : Oper) (ρ : Operand → Value) : Option (Bool × Option Addr) :=
  match o.op with
  | .binOp b T x y _ => match b, P.underlying T, ρ x, ρ y with
    | .eql, some (.slice _), .slice a _ _, .slice none 0 0 => some (true, a)
    | .neq, some (.slice _), .slice a _ _, .slice none 0 0 => some (false, a)
    | .eql, some (.pointer _), .pointer a, .pointer none => some (true, a)
    | .neq, some (.pointer _), .pointer a, .pointer none => some (false, a)
    | _, _, _, _ => none
  | _ => none
theorem isNil_is (a : Option Addr) : a.isNone = isNil a := by cases a <;> rfl
theorem nlq_run {P : Program} {o : Oper} {ρ : Operand → Value} {w : World} {a : Option Addr} (e : Bool) (h : nlq P o ρ = some (e, a)) : (execOp ρ o).run P w = .ok (.value (.bool (if e then isNil a else !isNil a))) w := by
  unfold nlq at h
  split at h
  case h_2 => cases h
  rename_i b T x y u ho
  split at h
  case h_5 => cases h
  all_goals
    rename_i hT hx hy
    simp only [Option.some.injEq, Prod.mk.injEq] at h
    obtain ⟨rfl, rfl⟩ := h
    unfold execOp
    simp only [ho, hx, hy]
    first
      | simp [eqGuard_at_slice, binOp, run_equal_slice_nil w _ _ _ _ _ hT, isNil_is]
      | (have hT' : P.underlying T = some (.pointer (P.pointee T)) := by simp [Program.pointee, hT]
         simp [eqGuard_at_pointer, binOp, run_equal_pointer_nil w _ _ hT', isNil_is])

/-! ### 3. '==' of aggregates -/

def partq (P : Program) (t : TypeId) (cs : Array Value) (off : Nat) : Option Value :=
  match P.underlying t with
  | some (.struct _) => match P.info? t with | some i => some (.agg (cs.extract off (off + i.size))) | none => none
  | some (.array _ _) => match P.info? t with | some i => some (.agg (cs.extract off (off + i.size))) | none => none
  | some _ => cs[off]?
  | none => none
theorem partq_run {P : Program} {t : TypeId} {cs : Array Value} {off : Nat} {v : Value} {w : World} (h : partq P t cs off = some v) : (part t cs off).run P w = .ok v w := by
  unfold partq at h
  unfold part
  split at h
  · rename_i hT
    split at h
    · rename_i i hi
      injection h with h
      subst h
      simp [isAgg, run_underlying hT, sizeOf, typeInfo, hi]
    · cases h
  · rename_i hT
    split at h
    · rename_i i hi
      injection h with h
      subst h
      simp [isAgg, run_underlying hT, sizeOf, typeInfo, hi]
    · cases h
  · rename_i d hd1 hd2 hT
    have : (isAgg t).run P w = .ok false w := by
      cases d <;> first | exact absurd rfl (hd1 _) | exact absurd rfl (hd2 _ _) | simp [isAgg, run_underlying hT]
    simp [Sem.run_bind, this, h]
  · cases h
def eqvF (P : Program) (ev : TypeId → Value → Value → Option Bool) (xs ys : Array Value) : List Field → Option Bool
  | [] => some true
  | f :: fs =>
    bif f.name == "_" then eqvF P ev xs ys fs
    else match partq P f.type xs f.offset, partq P f.type ys f.offset with
      | some a, some b => match ev f.type a b, eqvF P ev xs ys fs with
        | some r, some s => some (r && s)
        | _, _ => none
      | _, _ => none
def eqvA (P : Program) (ev : TypeId → Value → Value → Option Bool) (e n : Nat) (xs ys : Array Value) : List Nat → Option Bool
  | [] => some true
  | i :: r => match partq P e xs (i * n), partq P e ys (i * n) with
    | some a, some b => match ev e a b, eqvA P ev e n xs ys r with
      | some x, some y => some (x && y)
      | _, _ => none
    | _, _ => none
def eqv (P : Program) : Nat → TypeId → Value → Value → Option Bool
  | 0 => fun _ _ _ => none
  | d + 1 => fun t x y =>
    match P.underlying t, x, y with
    | some .bool, .bool a, .bool b => some (a == b)
    | some (.int _), .int k a, .int k' b => if k = k' then some (a == b) else none
    | some .string, .string a, .string b => some (a.toList == b.toList)
    | some (.struct fs), .agg xs, .agg ys => bif P.stoodInHeld t then none else eqvF P (eqv P d) xs ys fs.toList
    | some (.array len e), .agg xs, .agg ys => match P.info? e with
      | some i => eqvA P (eqv P d) e i.size xs ys (List.range' 0 len)
      | none => none
    | _, _, _ => none
theorem eqvF_run {P : Program} {w : World} {d : Nat} {ev : TypeId → Value → Value → Option Bool} (hev : ∀ t x y r, ev t x y = some r → (Op.equalIn d t x y).run P w = .ok r w) : ∀ (xs ys : Array Value) (fs : List Field) (r : Bool), eqvF P ev xs ys fs = some r → (Op.eqFields d xs ys fs).run P w = .ok r w
  | xs, ys, [], r, h => by simp [eqvF] at h; subst h; simp [Op.eqFields]
  | xs, ys, f :: fs, r, h => by
    unfold eqvF at h
    rw [Op.eqFields]
    cases hn : (f.name == "_") with
    | true =>
      rw [hn] at h
      simp only [cond_true] at h
      have : ¬ (f.name ≠ "_") := by simpa using hn
      rw [if_neg this]
      exact eqvF_run hev xs ys fs r h
    | false =>
      rw [hn] at h
      simp only [cond_false] at h
      have hn' : f.name ≠ "_" := by simpa using hn
      rw [if_pos hn']
      split at h
      · rename_i a b ha hb
        split at h
        · rename_i r1 s1 h1 h2
          injection h with h
          subst h
          simp only [Sem.run_bind, partq_run ha, partq_run hb, hev f.type a b r1 h1, Result.andThen_ok]
          cases r1
          · simp
          · simpa using eqvF_run hev xs ys fs s1 h2
        · cases h
      · cases h
theorem eqvA_run {P : Program} {w : World} {d e n : Nat} {ev : TypeId → Value → Value → Option Bool} (hev : ∀ t x y r, ev t x y = some r → (Op.equalIn d t x y).run P w = .ok r w) (xs ys : Array Value) : ∀ (l : List Nat) (r : Bool), eqvA P ev e n xs ys l = some r →
    (Sem.run P (forIn l ((none, ()) : Option Bool × Unit) fun i __s => do
              let __do_lift ← part e xs (i * n)
              let __do_lift_1 ← part e ys (i * n)
              let __do_lift ← Op.equalIn d e __do_lift __do_lift_1
              if (!__do_lift) = true then pure (ForInStep.done (some false, ())) else pure (ForInStep.yield (none, ()))) w) = .ok ((if r then none else some false), ()) w
  | [], r, h => by simp [eqvA] at h; subst h; simp
  | i :: l, r, h => by
    unfold eqvA at h
    split at h
    · rename_i a b ha hb
      split at h
      · rename_i x y h1 h2
        injection h with h
        subst h
        simp only [List.forIn_cons, Sem.run_bind, partq_run ha, partq_run hb, hev e a b x h1, Result.andThen_ok]
        cases x
        · simp
        · simpa using eqvA_run hev xs ys l y h2
      · cases h
    · cases h
theorem eqv_run {P : Program} {w : World} : ∀ (d : Nat) (t : TypeId) (x y : Value) (r : Bool), eqv P d t x y = some r → (Op.equalIn d t x y).run P w = .ok r w
  | 0, _, _, _, _, h => by simp [eqv] at h
  | d + 1, t, x, y, r, h => by
    unfold eqv at h
    split at h
    · rename_i hT; injection h with h; subst h; exact run_equalIn_bool w d t _ _ hT
    · rename_i k k1 a k2 b hT
      split at h
      · rename_i hk; injection h with h; subst h; subst hk; exact run_equalIn_int w d t _ _ _ _ hT
      · cases h
    · rename_i hT; injection h with h; subst h; exact run_equalIn_string w d t _ _ hT
    · rename_i fs xs ys hT
      cases hp : P.stoodInHeld t with
      | true => rw [hp] at h; cases h
      | false =>
        rw [hp] at h
        simp only [cond_false] at h
        have hf : P.fieldsOf t = fs := by simp [Program.fieldsOf, hT]
        rw [run_equalIn_struct (P := P) w d t xs ys (by rw [hf]; exact hT) hp, hf]
        exact eqvF_run (fun t x y r h => eqv_run d t x y r h) xs ys fs.toList r h
    · rename_i len e xs ys hT
      split at h
      · rename_i i hi
        have h1 := eqvA_run (w := w) (fun t x y r h => eqv_run d t x y r h) xs ys (List.range' 0 len) r h
        have hs : (Go.sizeOf e).run P w = .ok i.size w := by simp [Go.sizeOf, typeInfo, hi]
        simp only [Op.equalIn, Sem.run_bind, run_underlying hT, Result.andThen_ok, hs, Std.Legacy.Range.forIn_eq_forIn_range', Std.Legacy.Range.size]
        simp only [Nat.sub_zero, Nat.add_sub_cancel, Nat.div_one, h1, Result.andThen_ok]
        cases r <;> rfl
      · cases h
    · cases h
def aeq (P : Program) (o : Oper) (ρ : Operand → Value) : Option (Bool × Bool) :=
  match o.op with
  | .binOp b T x y _ => match b, ρ x, ρ y with
    | .eql, .agg xs, .agg ys => bif P.eqGuardType P.depth T then none else (eqv P 10000 T (.agg xs) (.agg ys)).map fun r => (true, r)
    | .neq, .agg xs, .agg ys => bif P.eqGuardType P.depth T then none else (eqv P 10000 T (.agg xs) (.agg ys)).map fun r => (false, r)
    | _, _, _ => none
  | _ => none
theorem aeq_run {P : Program} {o : Oper} {ρ : Operand → Value} {w : World} (e r : Bool) (h : aeq P o ρ = some (e, r)) : (execOp ρ o).run P w = .ok (.value (.bool (if e then r else !r))) w := by
  unfold aeq at h
  split at h
  case h_2 => cases h
  rename_i b T x y u ho
  split at h
  case h_3 => cases h
  all_goals
    rename_i xs ys hx hy
    cases hg : P.eqGuardType P.depth T with
    | true => rw [hg] at h; cases h
    | false =>
    rw [hg] at h
    simp only [cond_false, Option.map_eq_some_iff, Prod.mk.injEq] at h
    obtain ⟨r0, h1, rfl, rfl⟩ := h
    have h2 := eqv_run (w := w) _ _ _ _ _ h1
    have hg' : P.eqGuardType P.depth T = false := hg
    unfold execOp
    simp [ho, hx, hy, run_eqGuard_agg w _ T _ _ xs ys hg', run_eql_struct, run_neq_struct, h2]

/-! ### 4. Rows written in part -/

theorem RepL.take {α : Type} {K : Kd α} {m : Mem} {cs : List Value} {xs : List α} (h : RepL K m cs xs) (n : Nat) : RepL K m (cs.take (n * K.size)) (xs.take n) := by
  refine ⟨?_, fun i hi => ?_⟩
  · rw [List.length_take, List.length_take, h.1, ← Nat.mul_min_mul_right]
  · rw [List.length_take] at hi
    rw [List.getElem_take]
    have hi2 : i < xs.length := by omega
    refine K.ext (fun j hj => ?_) (h.2 i hi2)
    have e1 := mul_slot (show i < n by omega) hj
    simp only [List.getD_eq_getElem?_getD]
    rw [List.getElem?_take, if_pos e1]
theorem RepL.drop {α : Type} {K : Kd α} {m : Mem} {cs : List Value} {xs : List α} (h : RepL K m cs xs) (n : Nat) : RepL K m (cs.drop (n * K.size)) (xs.drop n) := by
  refine ⟨?_, fun i hi => ?_⟩
  · rw [List.length_drop, List.length_drop, h.1, Nat.sub_mul]
  · rw [List.length_drop] at hi
    rw [List.getElem_drop]
    refine K.ext (fun j hj => ?_) (h.2 (n + i) (by omega))
    simp only [List.getD_eq_getElem?_getD]
    rw [List.getElem?_drop, Nat.add_mul, Nat.add_assoc]
theorem RepL.replicate {α : Type} {K : Kd α} {m : Mem} {zl : List Value} {z : α} (hl : zl.length = K.size) (h : K.rep m (W.cells zl) z) : ∀ n, RepL K m (List.replicate n zl).flatten (List.replicate n z)
  | 0 => RepL.nil
  | n + 1 => by simp only [List.replicate_succ, List.flatten_cons]; exact RepL.cons hl h (RepL.replicate hl h n)

/-- Elements written in one go into a row of the call's own. -/
theorem own_put {P : Program} {w : World} {m : Mem} {z : Base} {G : List Grp} {α : Type} {K : Kd α} {bytes : Nat} {E : TypeId} {b cap : Nat} {arr : Array Value} {xs ys : List α} {vs : List Value} (p : Nat)
    (hst : W.St z w m ([(b, .cells arr E (0, 0))] :: G)) (ho : OwnSl K bytes E m (some ⟨b, 0, none⟩) cap [(b, .cells arr E (0, 0))] xs) (hrep : RepL K m vs ys) (h1 : allOne vs = true) (hp : p + ys.length ≤ xs.length) :
    ∃ I' w', (storeCells ⟨b, p * K.size, none⟩ vs 0).run P w = .ok () w' ∧ W.St z w' m (I' :: G) ∧ OwnSl K bytes E m (some ⟨b, 0, none⟩) cap I' (xs.take p ++ ys ++ xs.drop (p + ys.length)) := by
  obtain ⟨hb1, hb2, h⟩ := ho
  rcases h with ⟨h, _⟩ | ⟨b', arr', he, hI, hlc, hcm, has, hr⟩
  · cases h
  injection he with he
  injection he with he _ _
  subst he
  simp only [List.cons.injEq, Prod.mk.injEq, Obj.cells.injEq, and_true, true_and] at hI
  subst hI
  have hg := hst.get (b := b) (o := .cells arr E (0, 0)) (by simp)
  have hvl : vs.length = ys.length * K.size := hrep.1
  have hal : arr.toList.length = arr.size := Array.length_toList
  have hle : xs.length * K.size ≤ arr.size := by rw [has]; exact Nat.mul_le_mul_right _ hlc
  have hfit : p * K.size + vs.length ≤ xs.length * K.size := by rw [hvl, ← Nat.add_mul]; exact Nat.mul_le_mul_right _ hp
  have hrun := run_storeCells_at P b (p * K.size) E vs 0 arr w hg (by simpa using Nat.le_trans hfit hle) (fun v hv => List.all_eq_true.1 h1 v hv)
  refine ⟨_, _, hrun, hst.changed rfl rfl rfl (setRow_heap w b _ _ E _ hg) (fun k u hk hu => by rw [setRow_other w b k _ hk]; exact hu), ?_⟩
  have hlen : (xs.take p ++ ys ++ xs.drop (p + ys.length)).length = xs.length := by simp only [List.length_append, List.length_take, List.length_drop]; omega
  refine ⟨by rw [hlen]; exact hb1, by rw [hlen]; exact hb2, .inr ⟨b, _, rfl, rfl, by rw [hlen]; exact hlc, hcm, ?_, ?_⟩⟩
  · simp only [List.size_toArray, List.length_append, List.length_take, List.length_drop, hal]; omega
  · rw [hlen]
    have h2 : ((arr.toList.take (p * K.size + 0) ++ vs ++ arr.toList.drop (p * K.size + 0 + vs.length)).toArray.toList.take (xs.length * K.size)) =
        (arr.toList.take (xs.length * K.size)).take (p * K.size) ++ vs ++ (arr.toList.take (xs.length * K.size)).drop ((p + ys.length) * K.size) := by
      have e1 : (p + ys.length) * K.size = p * K.size + vs.length := by rw [Nat.add_mul, hvl]
      rw [e1]
      simp only [List.toList_toArray, Nat.add_zero]
      apply List.ext_getElem?
      intro j
      simp only [List.getElem?_take, List.getElem?_append, List.length_append, List.length_take, List.getElem?_drop, hal]
      by_cases c1 : j < p * K.size
      · simp [show j < xs.length * K.size by omega, show j < min (p * K.size) arr.size by omega, show j < min (p * K.size) arr.size + vs.length by omega, c1, show j < min (p * K.size) (min (xs.length * K.size) arr.size) by omega, show j < min (p * K.size) (min (xs.length * K.size) arr.size) + vs.length by omega]
      · by_cases c2 : j < p * K.size + vs.length
        · simp [show j < xs.length * K.size by omega, show ¬ j < min (p * K.size) arr.size by omega, show j < min (p * K.size) arr.size + vs.length by omega, show ¬ j < min (p * K.size) (min (xs.length * K.size) arr.size) by omega, show j < min (p * K.size) (min (xs.length * K.size) arr.size) + vs.length by omega]
          rw [show min (p * K.size) arr.size = p * K.size by omega, show min (p * K.size) (min (xs.length * K.size) arr.size) = p * K.size by omega]
        · simp only [show ¬ j < min (p * K.size) arr.size + vs.length by omega, show ¬ j < min (p * K.size) (min (xs.length * K.size) arr.size) + vs.length by omega, if_false]
          rw [show min (p * K.size) arr.size = p * K.size by omega, show min (p * K.size) (min (xs.length * K.size) arr.size) = p * K.size by omega]
          rw [show p * K.size + vs.length + (j - (p * K.size + vs.length)) = j by omega]
    rw [h2]
    exact ((hr.take p).append hrep).append (hr.drop (p + ys.length))


/-! ### 5. copy, clear, slices cut behind their begin -/

def cpyN {α β : Type} (xs : List α) (ys : List β) : Int := ((Nat.min ys.length xs.length : Nat) : Int)
def cpy {α : Type} (xs ys : List α) : List α := ys.take (Nat.min ys.length xs.length) ++ xs.drop (Nat.min ys.length xs.length)
theorem cpy_length {α : Type} (xs ys : List α) : (cpy xs ys).length = xs.length := by
  have key : ∀ k, k ≤ ys.length → k ≤ xs.length → (ys.take k ++ xs.drop k).length = xs.length := fun k h1 h2 => by
    rw [List.length_append, List.length_take, List.length_drop, Nat.min_eq_left h1]; omega
  exact key _ (Nat.min_le_left _ _) (Nat.min_le_right _ _)
theorem cpyN_in {α β : Type} {xs : List α} {ys : List β} (h : xs.length ≤ reach) : InR .i64 (cpyN xs ys) := by
  unfold cpyN reach at *; unfold InR; have := Nat.min_le_right ys.length xs.length; constructor
  · omega
  · have : ((Nat.min ys.length xs.length : Nat) : Int) ≤ (xs.length : Int) := by exact_mod_cast Nat.min_le_right ys.length xs.length
    omega
def cpq (P : Program) (o : Oper) (ρ : Operand → Value) : Option (Value × Value × TypeId × Nat) :=
  match o.op with
  | .call c => match c.callee, c.args.toList, c.argTypes.toList with
    | .builtin .copy, [x, y], [t, u] => match P.underlying t with
      | some (.slice E) => match P.info? E with
        | some i => some (ρ x, ρ y, E, i.size)
        | none => none
      | _ => none
    | _, _, _ => none
  | _ => none
theorem cpq_told {P : Program} {o : Oper} {ρ : Operand → Value} {vx vy : Value} {E : TypeId} {sz : Nat} (h : cpq P o ρ = some (vx, vy, E, sz)) :
    ∃ t u, P.underlying t = some (.slice E) ∧ (∃ i, P.info? E = some i ∧ i.size = sz) ∧ ∀ w v w', (Builtin.copy_ #[t, u] o.type #[vx, vy]).run P w = .ok v w' → (execOp ρ o).run P w = .ok (.value v) w' := by
  unfold cpq at h
  split at h
  case h_2 => cases h
  rename_i c ho
  split at h
  case h_2 => cases h
  rename_i x y t u hc ha hat
  split at h
  case h_2 => cases h
  rename_i E' hT
  split at h
  case h_2 => cases h
  rename_i i hi
  simp only [Option.some.injEq, Prod.mk.injEq] at h
  obtain ⟨rfl, rfl, rfl, rfl⟩ := h
  refine ⟨t, u, hT, ⟨i, hi, rfl⟩, fun w v w' hr => ?_⟩
  have ha' : c.args = #[x, y] := by rw [← ha]
  have hat' : c.argTypes = #[t, u] := by rw [← hat]
  unfold execOp
  simp only [ho, resolve, hc, ha', hat', invoke, builtin, Sem.run_bind, Sem.run_pure, Result.andThen_ok, List.map_toArray, List.map_cons, List.map_nil, hr]
theorem own_copy {P : Program} {o : Oper} {ρ : Operand → Value} {w : World} {m : Mem} {z : Base} {G : List Grp} {α : Type} {K : Kd α} {bytes bytes2 : Nat} {E : TypeId} {a : Option Addr} {cap : Nat} {I : Grp} {xs ys : List α} {a2 : Option Addr} {c2 : Nat}
    (hq : cpq P o ρ = some (.slice a xs.length cap, .slice a2 ys.length c2, E, K.size)) (hst : W.St z w m (I :: G)) (ho : OwnSl K bytes E m a cap I xs) (hs : Sl K bytes2 m a2 c2 ys) :
    ∃ I' w', (execOp ρ o).run P w = .ok (.value (.int .i64 (cpyN xs ys))) w' ∧ W.St z w' m (I' :: G) ∧ OwnSl K bytes E m a cap I' (cpy xs ys) := by
  obtain ⟨t, u, hT, ⟨i, hi, hsz⟩, hrun⟩ := cpq_told hq
  have hmin : Nat.min ys.length xs.length = min ys.length xs.length := rfl
  by_cases hn : Nat.min ys.length xs.length = 0
  · refine ⟨I, w, hrun _ _ _ ?_, hst, ?_⟩
    · have hc : cpyN xs ys = 0 := by unfold cpyN; rw [hn]; rfl
      rw [hc]
      cases a <;> cases a2 <;> simp [Builtin.copy_, run_underlying hT, Builtin.lenOf, Builtin.firstCells, sizeOf, typeInfo, hi, hn, storeCells, loadCells, loadCellsFrom, goInt] <;> rfl
    · have : cpy xs ys = xs := by unfold cpy; rw [hn]; simp
      rw [this]; exact ho
  · have hx : 0 < xs.length := by have := Nat.min_le_right ys.length xs.length; omega
    have hy : 0 < ys.length := by have := Nat.min_le_left ys.length xs.length; omega
    obtain ⟨ad, news, rfl, hrep, h1, hcell⟩ := hs.cells hy
    have ho0 := ho
    obtain ⟨_, _, ho⟩ := ho
    rcases ho with ⟨_, _, h, _⟩ | ⟨b, arr, rfl, rfl, hlc, hcm, has, hr⟩
    · subst h; simp at hx
    have hk := hrep.take (Nat.min ys.length xs.length)
    have h1' : allOne (news.take (Nat.min ys.length xs.length * K.size)) = true := by
      unfold allOne at *; rw [List.all_eq_true] at *; intro v hv; exact h1 v (List.mem_of_mem_take hv)
    have hl : (ys.take (Nat.min ys.length xs.length)).length = Nat.min ys.length xs.length := by rw [List.length_take]; have := Nat.min_le_left ys.length xs.length; omega
    obtain ⟨I', w', hst1, hst', ho'⟩ := own_put (P := P) (p := 0) hst ho0 hk h1' (by rw [hl]; have := Nat.min_le_right ys.length xs.length; omega)
    have hload := run_loadCells_list (P := P) w ad (news.take (Nat.min ys.length xs.length * K.size)) (fun j v hj => by
      have hlt := (List.getElem?_eq_some_iff.1 hj).1
      rw [List.length_take] at hlt
      rw [List.getElem?_take, if_pos (by omega)] at hj
      exact hcell hst j v hj)
    have hnl : (news.take (Nat.min ys.length xs.length * K.size)).length = Nat.min ys.length xs.length * K.size := by rw [hk.1, hl]
    rw [hnl] at hload
    refine ⟨I', w', hrun _ _ _ ?_, hst', ?_⟩
    · rw [Nat.zero_mul] at hst1
      simp [Builtin.copy_, run_underlying hT, Builtin.lenOf, Builtin.firstCells, sizeOf, typeInfo, hi, hsz, hload, hst1, goInt, cpyN]
    · simpa [cpy, hl] using ho'

def cutA (a : Option Addr) (cap : Nat) (lo : Int) (sz : Nat) : Option Addr := if cap = lo.toNat then a else a.map (·.add (lo.toNat * sz))
theorem Sl.cut_is {α : Type} {K : Kd α} {bytes : Nat} {m : Mem} {a : Option Addr} {cap : Nat} {xs r : List α} {lo hi : Int} (h : Sl K bytes m a cap xs) (hr : W.cut xs lo hi = some r) : Sl K bytes m (cutA a cap lo K.size) (cap - lo.toNat) r := by
  obtain ⟨rfl, h0, h1, h2⟩ := cut_some hr
  obtain ⟨⟨hlc, hrow⟩, hb1, hb2⟩ := h
  have hlen : ((xs.take hi.toNat).drop lo.toNat).length = hi.toNat - lo.toNat := by
    rw [List.length_drop, List.length_take]; omega
  refine ⟨⟨by rw [hlen]; omega, fun i hi' => ?_⟩, ?_, by rw [hlen]; omega⟩
  · have hi2 : lo.toNat + i < xs.length := by rw [hlen] at hi'; omega
    obtain ⟨ad, ha, c, hat, hsp, hrep⟩ := hrow (lo.toNat + i) hi2
    rw [hlen] at hi'
    unfold cutA
    rw [if_neg (by omega), ha]
    refine ⟨ad.add (lo.toNat * K.size), rfl, c, ?_, ?_, ?_⟩
    · rw [add_some ad hsp]
      simp only
      rw [Nat.add_mul] at hat
      rw [Nat.add_assoc]
      exact hat
    · rw [add_some ad hsp]
    · simpa [List.getElem_drop, List.getElem_take] using hrep
  · rw [hlen]
    exact Nat.le_trans (Nat.mul_le_mul_right _ (by omega)) hb1
theorem OwnSl.cap {α : Type} {K : Kd α} {bytes : Nat} {E : TypeId} {m : Mem} {a : Option Addr} {cap : Nat} {I : Grp} {xs : List α} (h : OwnSl K bytes E m a cap I xs) : xs.length ≤ cap := by
  obtain ⟨_, _, h⟩ := h
  rcases h with ⟨_, _, h, _⟩ | ⟨_, _, _, _, h, _⟩
  · subst h; simp
  · exact h
theorem osub_run {P : Program} {o : Oper} {ρ : Operand → Value} {w : World} {α : Type} {K : Kd α} {bytes : Nat} {E : TypeId} {m : Mem} {a : Option Addr} {cap sz : Nat} {I : Grp} {xs r : List α} {lo hi : Int} (h : OwnSl K bytes E m a cap I xs) (hr : W.cut xs lo hi = some r)
    (hq : ctq P o ρ = some (a, xs.length, cap, sz, lo, hi)) : (execOp ρ o).run P w = .ok (.value (.slice (cutA a cap lo sz) r.length (cap - lo.toNat))) w := by
  obtain ⟨rfl, h0, h1, h2⟩ := cut_some hr
  have hlc := h.cap
  rw [ctq_run hq h0 h1 (by omega) hlc]
  have hlen : ((xs.take hi.toNat).drop lo.toNat).length = hi.toNat - lo.toNat := by
    rw [List.length_drop, List.length_take]; omega
  rw [hlen]; rfl
theorem osub_len {α : Type} {K : Kd α} {bytes : Nat} {E : TypeId} {m : Mem} {a : Option Addr} {cap : Nat} {I : Grp} {xs r : List α} {lo hi : Int} (h : OwnSl K bytes E m a cap I xs) (hr : W.cut xs lo hi = some r) : r.length ≤ reach := by
  obtain ⟨rfl, h0, h1, h2⟩ := cut_some hr
  have := h.len
  rw [List.length_drop, List.length_take]; omega

def clr {α : Type} (xs : List α) (lo : Int) (z : α) : List α := xs.take lo.toNat ++ List.replicate (xs.length - lo.toNat) z
theorem clr_length {α : Type} (xs : List α) (lo : Int) (z : α) (h : lo.toNat ≤ xs.length) : (clr xs lo z).length = xs.length := by
  unfold clr; simp only [List.length_append, List.length_take, List.length_replicate]; omega
def clq (P : Program) (o : Oper) (ρ : Operand → Value) : Option (Value × Nat × List Value) :=
  match o.op with
  | .call c => match c.callee, c.args.toList, c.argTypes.toList with
    | .builtin .clear, [x], [t] => match P.underlying t with
      | some (.slice E) => match P.info? E with
        | some i => match i.zero with
          | some zv => some (ρ x, i.size, zv.cells.toList)
          | none => none
        | none => none
      | _ => none
    | _, _, _ => none
  | _ => none
theorem zeroCells_flat (z : Array Value) : ∀ n, (Builtin.zeroCells z n).toList = (List.replicate n z.toList).flatten := by
  intro n
  apply List.ext_getElem
  · simp [Builtin.zeroCells]
  · intro j h1 h2
    simp only [Builtin.zeroCells, Array.toList_map, List.getElem_map, Array.toList_range, List.getElem_range]
    have hj : j < n * z.size := by simpa [Builtin.zeroCells] using h1
    have hz : 0 < z.size := by
      rcases Nat.eq_zero_or_pos z.size with h | h
      · rw [h, Nat.mul_zero] at hj; omega
      · exact h
    have key : ∀ n j (hj : j < n * z.size), ((List.replicate n z.toList).flatten)[j]? = some z[j % z.size]! := by
      intro n
      induction n with
      | zero => intro j hj; simp at hj
      | succ n ih =>
        intro j hj
        rw [List.replicate_succ, List.flatten_cons]
        by_cases hlt : j < z.size
        · rw [List.getElem?_append_left (by simpa using hlt), Nat.mod_eq_of_lt hlt]
          simp [hlt]
        · rw [List.getElem?_append_right (by simpa using hlt)]
          have := ih (j - z.size) (by rw [Nat.add_mul] at hj; omega)
          rw [Array.length_toList, this, ← Nat.mod_eq_sub_mod (by omega)]
    have h3 := key n j hj
    rw [List.getElem?_eq_getElem h2] at h3
    injection h3 with h3
    exact h3.symm
theorem own_clear {P : Program} {o : Oper} {ρ : Operand → Value} {w : World} {m : Mem} {z : Base} {G : List Grp} {α : Type} {K : Kd α} {bytes : Nat} {E : TypeId} {a : Option Addr} {cap : Nat} {I : Grp} {xs r : List α} {lo : Int} {zl : List Value} {zero : α}
    (hq : clq P o ρ = some (.slice (cutA a cap lo K.size) r.length (cap - lo.toNat), K.size, zl)) (hst : W.St z w m (I :: G)) (ho : OwnSl K bytes E m a cap I xs) (hz : K.rep m (W.cells zl) zero) (hzl : zl.length = K.size) (hr : W.cut xs lo (xs.length : Int) = some r) :
    ∃ I' w', (execOp ρ o).run P w = .ok (.value (.tuple #[])) w' ∧ W.St z w' m (I' :: G) ∧ OwnSl K bytes E m a cap I' (clr xs lo zero) ∧ lo.toNat ≤ xs.length := by
  obtain ⟨rfl, h0, h1, _⟩ := cut_some hr
  have hlen : ((xs.take (xs.length : Int).toNat).drop lo.toNat).length = xs.length - lo.toNat := by
    rw [List.length_drop, List.length_take]; omega
  have hlo : lo.toNat ≤ xs.length := by omega
  unfold clq at hq
  split at hq
  case h_2 => cases hq
  rename_i c hop
  split at hq
  case h_2 => cases hq
  rename_i x t hc ha hat
  split at hq
  case h_2 => cases hq
  rename_i E' hT
  split at hq
  case h_2 => cases hq
  rename_i i hi
  split at hq
  case h_2 => cases hq
  rename_i zv hzv
  simp only [Option.some.injEq, Prod.mk.injEq] at hq
  obtain ⟨hx, hsz, rfl⟩ := hq
  have ha' : c.args = #[x] := by rw [← ha]
  have hat' : c.argTypes = #[t] := by rw [← hat]
  rw [hlen] at hx
  by_cases hn : xs.length - lo.toNat = 0
  · refine ⟨I, w, ?_, hst, ?_, hlo⟩
    · unfold execOp
      rw [hn] at hx
      cases hcut : cutA a cap lo K.size <;> rw [hcut] at hx <;> simp [hop, resolve, hc, ha', hat', hx, invoke, builtin, Builtin.clear_, run_underlying hT]
    · have : clr xs lo zero = xs := by unfold clr; rw [hn, List.take_of_length_le (by omega)]; simp
      rw [this]; exact ho
  · have ho0 := ho
    obtain ⟨_, _, ho⟩ := ho
    rcases ho with ⟨_, _, h, _⟩ | ⟨b, arr, rfl, rfl, hlc, hcm, has, hrr⟩
    · subst h; simp at hn
    have hrep := RepL.replicate hzl hz (xs.length - lo.toNat)
    have h1' : allOne (List.replicate (xs.length - lo.toNat) zv.cells.toList).flatten = true := by
      unfold allOne
      rw [List.all_eq_true]
      intro v hv
      obtain ⟨l, hl, hvl⟩ := List.mem_flatten.1 hv
      rw [(List.mem_replicate.1 hl).2] at hvl
      obtain ⟨j, hj, hvj⟩ := List.mem_iff_getElem.1 hvl
      have hjk : j < K.size := by rw [← hzl]; exact hj
      have := K.one hz j hjk
      have h4 := cells_get zv.cells.toList j hj
      rw [List.getElem?_eq_getElem hj] at h4
      injection h4 with h4
      rw [← hvj, h4]; exact this
    obtain ⟨I', w', hst1, hst', ho'⟩ := own_put (P := P) (p := lo.toNat) hst ho0 hrep h1' (by simp; omega)
    refine ⟨I', w', ?_, hst', ?_, hlo⟩
    · have hca : cutA (some ⟨b, 0, none⟩) cap lo K.size = some ⟨b, lo.toNat * K.size, none⟩ := by
        unfold cutA; rw [if_neg (by omega)]; simp [add_some]
      rw [hca] at hx
      obtain ⟨nn, hnn⟩ : ∃ nn, xs.length - lo.toNat = nn + 1 := ⟨xs.length - lo.toNat - 1, by omega⟩
      rw [hnn] at hx hst1
      have hzz : zeroValue E' = (do let ti ← typeInfo E'; match ti.zero with | some v => pure v | none => zeroValue E') ∨ True := .inr trivial
      unfold execOp
      simp [hop, resolve, hc, ha', hat', hx, invoke, builtin, Builtin.clear_, run_underlying hT, zeroValue, typeInfo, hi, hzv, zeroCells_flat, hst1]
    · have : clr xs lo zero = xs.take lo.toNat ++ List.replicate (xs.length - lo.toNat) zero ++ xs.drop (lo.toNat + (List.replicate (xs.length - lo.toNat) zero).length) := by
        unfold clr
        rw [List.length_replicate, List.drop_of_length_le (by omega), List.append_nil]
      rw [this]; exact ho'

/-! ### 6. Numbers -/

theorem quoI_in {k : IntKind} {x y r : Int} (h : quoI k x y = some r) : InR k r := by
  unfold quoI at h
  split at h
  · cases h
  · injection h with h; subst h; exact wrap_in _ _
theorem remI_in {k : IntKind} {x y r : Int} (h : remI x y = some r) (hx : InR k x) : InR k r := by
  unfold remI at h
  split at h
  · cases h
  · injection h with h; subst h; exact tmod_in hx
def shI (left : Bool) (k : IntKind) (x : Int) (y : Int) : Option Int := if y < 0 then none else some (if left then k.wrap (x * 2 ^ (min y.toNat k.bits)) else x.fdiv (2 ^ (min y.toNat k.bits)))
theorem shI_in {l : Bool} {k : IntKind} {x y r : Int} (h : shI l k x y = some r) (hx : InR k x) : InR k r := by
  unfold shI at h
  split at h
  · cases h
  · injection h with h; subst h
    cases l
    · exact shr_in k _ hx
    · exact wrap_in _ _
def shq (o : Oper) (ρ : Operand → Value) : Option (Bool × IntKind × Int × Int) :=
  match o.op with
  | .binOp op _ x y _ => match op, ρ x, ρ y with
    | .shl, .int k a, .int _ b => some (true, k, a, b)
    | .shr, .int k a, .int _ b => some (false, k, a, b)
    | _, _, _ => none
  | _ => none
theorem shI_run {P : Program} {o : Oper} {ρ : Operand → Value} {w : World} {l : Bool} {k : IntKind} {x y r : Int} (hq : shq o ρ = some (l, k, x, y)) (hr : shI l k x y = some r) : (execOp ρ o).run P w = .ok (.value (.int k r)) w := by
  unfold shI at hr
  split at hr
  · cases hr
  rename_i hy
  injection hr with hr
  subst hr
  unfold shq at hq
  split at hq
  case h_2 => cases hq
  rename_i op t x' y' u ho
  split at hq
  case h_3 => cases hq
  all_goals
    rename_i k1 a1 k2 b1 hx1 hy1
    simp only [Option.some.injEq, Prod.mk.injEq] at hq
    obtain ⟨rfl, rfl, rfl, rfl⟩ := hq
    unfold execOp
    simp [ho, hx1, hy1, binOp, eqGuard, Op.shift, hy]
def bitI (op : BinOp) (k : IntKind) (x y : Int) : Int :=
  match op with
  | .and => k.wrap (BitVec.ofInt k.bits x &&& BitVec.ofInt k.bits y).toNat
  | .or => k.wrap (BitVec.ofInt k.bits x ||| BitVec.ofInt k.bits y).toNat
  | .xor => k.wrap (BitVec.ofInt k.bits x ^^^ BitVec.ofInt k.bits y).toNat
  | _ => k.wrap (BitVec.ofInt k.bits x &&& ~~~BitVec.ofInt k.bits y).toNat
theorem bitI_in (op : BinOp) (k : IntKind) (x y : Int) : InR k (bitI op k x y) := by
  unfold bitI; split <;> exact wrap_in _ _

/-! ### 7. Odds and ends -/

theorem ocell0 {w : World} {ad : Addr} {s : Nat} {c : Nat → Value} (h : ∀ j, j < s → w.cell? (ad.add j) = some (c j)) (hs : 0 < s) : w.cell? ad = some (c 0) := by
  have := h 0 hs
  have h0 : ad.add 0 = ad := by unfold Addr.add; simp
  rw [h0] at this; exact this
/-- Some cells of an owned block. -/
theorem St.ocellsAt {z : Base} {w : World} {m : Mem} (pre : List Grp) {b : Nat} {l1 l : List Value} {t : TypeId} {fr : Nat × Nat} {post : List Grp} (h : W.St z w m (pre ++ [(b, .cells l1.toArray t fr)] :: post)) (o : Nat) (hl : (l1.drop o).take l.length = l) (j : Nat) (hj : j < l.length) :
    w.cell? ((⟨b, o, none⟩ : Addr).add j) = some (W.cells l j) := by
  rw [add_some _ rfl]
  have hlt : o + j < l1.length := by
    have := congrArg List.length hl
    rw [List.length_take, List.length_drop] at this
    omega
  rw [h.ocell pre (o + j) hlt]
  have h1 := cells_get l1 (o + j) hlt
  have h2 := cells_get l j hj
  have h3 : ((l1.drop o).take l.length)[j]? = l1[o + j]? := by rw [List.getElem?_take, if_pos hj, List.getElem?_drop]
  rw [hl] at h3
  rw [h3, h1] at h2
  injection h2 with h2
  rw [h2]
theorem addle {z : Base} {w : World} {m : Mem} {I J : Grp} {G : List Grp} (hst : W.St z w m (I :: G)) (h : ∀ p, p ∈ J → p ∈ I) : Mem.le (m.add J) (m.add I) := by
  intro b o hb
  cases hm : m b with
  | some u => simp [Mem.add, hm] at hb; subst hb; exact m.le_add I b _ hm
  | none =>
    simp only [Mem.add, hm, Option.map_eq_some_iff] at hb
    obtain ⟨p, hp, rfl⟩ := hb
    have h1 := List.mem_of_find?_eq_some hp
    have h2 := List.find?_some hp
    simp at h2
    subst h2
    exact hst.add_mem (b := p.1) (o := p.2) (h p h1)

/-- A quiet operation in a draw; pth: from an operation that waits for it, by what waits for what. -/
def pathB (ops : Array Oper) (i : Nat) : List Nat → Bool
  | [] => false
  | [x] => match ops[x]? with | some o => o.after.any fun e => Region.binds .any e && Nat.beq e.on i | none => false
  | x :: y :: r => (match ops[x]? with | some o => o.after.any fun e => Region.binds .any e && Nat.beq e.on y | none => false) && pathB ops i (y :: r)
theorem path_desc {ops : Array Oper} {i : Nat} : ∀ {x : Nat} {r : List Nat}, pathB ops i (x :: r) = true → Desc ops i x
  | x, [], h => by
    unfold pathB at h
    cases ho : ops[x]? with
    | none => rw [ho] at h; simp at h
    | some o =>
      rw [ho] at h
      obtain ⟨e, he, hb⟩ := Array.any_eq_true'.1 h
      simp only [Bool.and_eq_true] at hb
      exact .one ho ⟨e, he, hb.1, beq_iff.1 hb.2⟩
  | x, y :: r, h => by
    unfold pathB at h
    simp only [Bool.and_eq_true] at h
    have ih := path_desc h.2
    cases ho : ops[x]? with
    | none => rw [ho] at h; simp at h
    | some o =>
      rw [ho] at h
      obtain ⟨e, he, hb⟩ := Array.any_eq_true'.1 h.1
      simp only [Bool.and_eq_true] at hb
      exact .more ho ⟨e, he, hb.1, beq_iff.1 hb.2⟩ ih
def pathOk (ops : Array Oper) (i : Nat) (es : List Nat) : List Nat → Bool
  | [] => true
  | x :: r => es.contains x && pathB ops i (x :: r)
def takesOne (ops : Array Oper) (c : Nat) (es done : List Nat) (i : Nat) : Bool := (Region.ready .any ops (lst c done)).contains i && Region.free .any ops (lst c done) i && !es.contains i
theorem dr_vp {P : Program} {n : Nat} {ops : Array Oper} {a : Act} {e : Env} {w : World} {c fuel : Nat} {es done : List Nat} {T : World → Prop} {F : Nat → World → Prop} {b : Frame} {cs : List Frame} {R : Ending → World → Prop} {k : List Item} (i d : Nat) (v : Value) (pth : List Nat)
    (hs : Has n a e) (hd : downClosed ops (lst c done)) (hS : SE es T F (lst c done) w) (hsel : Region.noSelect ops = true) (ht : takesOne ops c es done i = true) (hp : pathOk ops i es pth = true) (hF : ∀ x ∈ pth.take 1, F x w)
    (hch : chk n ops i e (some d) = true) (hx : ∀ w, T w → (∀ x ∈ pth.take 1, F x w) → (execOp e.rho (opAt ops i)).run P w = .ok (.value v) w)
    (hk : ∀ a', Has n a' ((d, v) :: e) → downClosed ops (lst c (i :: done)) → SE es T F (lst c (i :: done)) w → wpAnyL P ops (Qk P b cs R k) (SE es T F) fuel (lst c (i :: done)) a' w) :
    wpAnyL P ops (Qk P b cs R k) (SE es T F) (fuel + 1) (lst c done) a w := by
  simp only [takesOne, Bool.and_eq_true] at ht
  obtain ⟨⟨ht1, ht2⟩, ht3⟩ := ht
  have hri : i ∈ Region.ready .any ops (lst c done) := by simpa using ht1
  have hSi : es.contains i = false := by simpa using ht3
  obtain ⟨h1, h2, h3, h4, h5⟩ := chk_told hch
  have hput : Has n (a.put (opAt ops i).dst v) ((d, v) :: e) := by
    have := hs.put (d := (opAt ops i).dst) (fun t ht => h3 t (by rw [← h2]; exact ht)) v
    rw [h2] at this ⊢
    exact this
  have hy : YieldsL P ops (SE es T F) i (opAt ops i) v a := by
    refine .inl ⟨wanted_of_E hs h4, fun listed w2 hwt hS2 => ?_⟩
    rw [exec_of_E hs h5]
    refine hx w2 hS2.1 fun x hx => ?_
    cases pth with
    | nil => simp at hx
    | cons y r =>
      simp at hx
      subst hx
      simp only [pathOk, Bool.and_eq_true] at hp
      exact hS2.2 x (by simpa using hp.1) (hwt x (path_desc hp.2))
  have hS' : SE es T F (lst c (i :: done)) w := (SE.set hSi _ _).2 hS
  exact wpAnyL_first h1 (Region.noSelect_spec hsel) (fun c a w hf => hf.elim) _ _ _ _ hd (Region.free_spec h1 ht2) hri hy hS (fun listed w => SE.set hSi listed w) (hk _ hput (hd.set hri) hS')
end Go.Proofs.Ytcnlbnccghjeaaa.W
