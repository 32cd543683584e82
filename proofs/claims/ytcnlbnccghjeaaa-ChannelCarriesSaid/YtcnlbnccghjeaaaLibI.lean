/- Pointers and maps that stay, function values, memories that shrink back, groups picked. Conditions: none. -/
import Derived.Test.YtcnlbnccghjeaaaLibH
set_option linter.unusedVariables false
set_option linter.unusedSimpArgs false
namespace Go.Proofs.Ytcnlbnccghjeaaa.W
open Go

/-! ### 1. Kinds that do not read memory -/

def Flat {α : Type} (K : Kd α) : Prop := ∀ {m m' : Mem} {c : Nat → Value} {x : α}, K.rep m c x → K.rep m' c x
theorem flat_int {k : IntKind} : Flat (kInt k) := fun h => h
theorem flat_bool : Flat kBool := fun h => h
theorem flat_str : Flat kStr := fun h => h
theorem RepL.flat {α : Type} {K : Kd α} (hf : Flat K) {m m' : Mem} {cs : List Value} {xs : List α} (h : RepL K m cs xs) : RepL K m' cs xs := ⟨h.1, fun i hi => hf (h.2 i hi)⟩
theorem OwnSl.flat {α : Type} {K : Kd α} {bytes : Nat} {E : TypeId} (hf : Flat K) {m m' : Mem} {a : Option Addr} {cap : Nat} {I : Grp} {xs : List α} (h : OwnSl K bytes E m a cap I xs) : OwnSl K bytes E m' a cap I xs := by
  obtain ⟨h1, h2, h3⟩ := h
  refine ⟨h1, h2, ?_⟩
  rcases h3 with h3 | ⟨b, arr, h4, h5, h6, h7, h8, h9⟩
  · exact .inl h3
  · exact .inr ⟨b, arr, h4, h5, h6, h7, h8, h9.flat hf⟩
theorem Vl.flat {α : Type} {K : Kd α} (hf : Flat K) {m m' : Mem} {v : Value} {x : α} (h : Vl K m v x) : Vl K m' v x := by
  rcases h with ⟨h1, l, h2, h3, h4⟩ | ⟨h1, h2, h3⟩
  · exact .inl ⟨h1, l, h2, h3, hf h4⟩
  · exact .inr ⟨h1, h2, hf h3⟩
theorem MapRep.flat {κ ν : Type} [BEq κ] {enc : κ → Value} {K : Kd ν} (hf : Flat K) {m m' : Mem} : ∀ {es : List MapEntry} {kvs : List (κ × ν)}, MapRep enc K m es kvs → MapRep enc K m' es kvs
  | [], [], _ => trivial
  | _ :: _, _ :: _, h => ⟨h.1, h.2.1.flat hf, MapRep.flat hf h.2.2⟩
  | [], _ :: _, h => h.elim
  | _ :: _, [], h => h.elim
theorem OwnM.flat {κ ν : Type} [BEq κ] {enc : κ → Value} {K : Kd ν} (hf : Flat K) {m m' : Mem} {r : Nat} {I : Grp} {kvs : List (κ × ν)} (h : OwnM enc K m r I kvs) : OwnM enc K m' r I kvs := by
  obtain ⟨h1, es, clock, h2, h3⟩ := h; exact ⟨h1, es, clock, h2, h3.flat hf⟩

/-! ### 2. Pointers and maps that stay -/

def PtrV {α : Type} (K : Kd α) (m : Mem) (p : Option Addr) (x : Option α) : Prop :=
  (x = none ∧ p = none) ∨ ∃ y ad c, x = some y ∧ p = some ad ∧ At m ad K.size c ∧ K.rep m c y
theorem PtrV.mono {α : Type} {K : Kd α} {m m' : Mem} {p : Option Addr} {x : Option α} (h : PtrV K m p x) (hm : m.le m') : PtrV K m' p x := by
  rcases h with h | ⟨y, ad, c, h1, h2, h3, h4⟩
  · exact .inl h
  · exact .inr ⟨y, ad, c, h1, h2, h3.mono hm, K.mono hm h4⟩
theorem PtrV.nil {α : Type} {K : Kd α} {m : Mem} : PtrV K m none none := .inl ⟨rfl, rfl⟩
theorem PtrV.mk {α : Type} {K : Kd α} {m : Mem} {ad : Addr} {c : Nat → Value} {y : α} (h : At m ad K.size c) (hr : K.rep m c y) : PtrV K m (some ad) (some y) := .inr ⟨y, ad, c, rfl, rfl, h, hr⟩
def kPtr {α : Type} (K : Kd α) : Kd (Option α) :=
  ⟨1, false, fun m c x => ∃ p, c 0 = .pointer p ∧ PtrV K m p x, by decide, fun h => by obtain ⟨p, h1, _⟩ := h; exact one0 h1 rfl, fun hm h => by obtain ⟨p, h1, h2⟩ := h; exact ⟨p, h1, h2.mono hm⟩,
    fun hc h => by obtain ⟨p, h1, h2⟩ := h; exact ⟨p, (hc 0 (by decide)).symm.trans h1, h2⟩⟩
theorem kPtr_open {α : Type} {K : Kd α} {m : Mem} {c : Nat → Value} {x : Option α} (h : (kPtr K).rep m c x) : ∃ p, (∀ j, j < 1 → c j = cells [.pointer p] j) ∧ PtrV K m p x := by
  obtain ⟨p, h1, h2⟩ := h; exact ⟨p, one_cell h1, h2⟩
/-- A value of a pointer's kind, and a map's. -/
def kMap {κ ν : Type} [BEq κ] (enc : κ → Value) (K : Kd ν) : Kd (List (κ × ν)) :=
  ⟨1, false, fun m c x => ∃ r, c 0 = .map r ∧ ImmM enc K m r x, by decide, fun h => by obtain ⟨r, h1, _⟩ := h; exact one0 h1 rfl, fun hm h => by obtain ⟨r, h1, h2⟩ := h; exact ⟨r, h1, h2.mono hm⟩,
    fun hc h => by obtain ⟨r, h1, h2⟩ := h; exact ⟨r, (hc 0 (by decide)).symm.trans h1, h2⟩⟩
theorem kMap_open {κ ν : Type} [BEq κ] {enc : κ → Value} {K : Kd ν} {m : Mem} {c : Nat → Value} {x : List (κ × ν)} (h : (kMap enc K).rep m c x) : ∃ r, (∀ j, j < 1 → c j = cells [.map r] j) ∧ ImmM enc K m r x := by
  obtain ⟨r, h1, h2⟩ := h; exact ⟨r, one_cell h1, h2⟩
theorem ImmM.nil {κ ν : Type} {enc : κ → Value} {K : Kd ν} {m : Mem} : ImmM enc K m none ([] : List (κ × ν)) := ⟨by simp, .inl ⟨rfl, rfl⟩⟩

/-! ### 3. What makes a kind's cells -/

theorem kInt_mk {k : IntKind} {m : Mem} {x : Int} (h : InR k x) : (kInt k).rep m (cells [.int k x]) x := ⟨rfl, h⟩
theorem kBool_mk {m : Mem} {x : Bool} : kBool.rep m (cells [.bool x]) x := rfl
theorem kStr_mk {m : Mem} {x : ByteArray} (h : x.size ≤ reach) : kStr.rep m (cells [.string x]) x := ⟨rfl, h⟩
theorem kSl_mk {α : Type} {K : Kd α} {bytes : Nat} {m : Mem} {a : Option Addr} {cap : Nat} {xs : List α} (h : Sl K bytes m a cap xs) : (kSl K bytes).rep m (cells [.slice a xs.length cap]) xs := ⟨a, cap, rfl, h⟩
theorem kPtr_mk {α : Type} {K : Kd α} {m : Mem} {p : Option Addr} {x : Option α} (h : PtrV K m p x) : (kPtr K).rep m (cells [.pointer p]) x := ⟨p, rfl, h⟩
theorem kMap_mk {κ ν : Type} [BEq κ] {enc : κ → Value} {K : Kd ν} {m : Mem} {r : Option Nat} {x : List (κ × ν)} (h : ImmM enc K m r x) : (kMap enc K).rep m (cells [.map r]) x := ⟨r, rfl, h⟩
theorem Vl_int {k : IntKind} {m : Mem} {v : Value} {x : Int} (h : Vl (kInt k) m v x) : v = .int k x ∧ InR k x := h.cells1 rfl
theorem Vl_bool {m : Mem} {v : Value} {x : Bool} (h : Vl kBool m v x) : v = .bool x := h.cells1 rfl
theorem Vl_str {m : Mem} {v : Value} {x : ByteArray} (h : Vl kStr m v x) : v = .string x ∧ x.size ≤ reach := h.cells1 rfl
theorem Vl_sl {α : Type} {K : Kd α} {bytes : Nat} {m : Mem} {v : Value} {xs : List α} (h : Vl (kSl K bytes) m v xs) : ∃ a cap, v = .slice a xs.length cap ∧ Sl K bytes m a cap xs := h.cells1 rfl
theorem Vl_ptr {α : Type} {K : Kd α} {m : Mem} {v : Value} {x : Option α} (h : Vl (kPtr K) m v x) : ∃ p, v = .pointer p ∧ PtrV K m p x := h.cells1 rfl
theorem Vl_map {κ ν : Type} [BEq κ] {enc : κ → Value} {K : Kd ν} {m : Mem} {v : Value} {x : List (κ × ν)} (h : Vl (kMap enc K) m v x) : ∃ r, v = .map r ∧ ImmM enc K m r x := h.cells1 rfl
theorem Vl.of {α : Type} {K : Kd α} (h1 : K.agg = false) (h2 : K.size = 1) {m : Mem} {v : Value} {x : α} (h3 : K.rep m (cells [v]) x) : Vl K m v x := .inr ⟨h1, h2, h3⟩
theorem Vl.ofA {α : Type} {K : Kd α} {m : Mem} {l : List Value} {x : α} (h3 : K.rep m (cells l) x) (h1 : K.agg = true) (h2 : l.length = K.size) : Vl K m (.agg l.toArray) x := .inl ⟨h1, l, rfl, h2, h3⟩

/-! ### 4. Groups picked -/

theorem St.take {z : Base} {w : World} {m : Mem} (pre : List Grp) {post : List Grp} (h : St z w m (pre ++ post)) : St z w m pre := by
  induction post with
  | nil => simpa using h
  | cons I post ih => exact ih (h.drop pre)
abbrev Has.env {n : Nat} {a : Act} {e : Env} (_ : Has n a e) : Env := e
theorem St.own_none {z : Base} {w : World} {m : Mem} {I : Grp} {G : List Grp} (h : St z w m (I :: G)) {b : Nat} {o : Obj} (hb : (b, o) ∈ I) : m b = none := (h.own b o (by simp only [List.flatten_cons, List.mem_append]; exact .inl hb)).2

/-! ### 5. append of a slice that stays, be it empty -/

theorem sl_cells0 {α : Type} {K : Kd α} {bytes : Nat} {m : Mem} {a : Option Addr} {cap : Nat} {xs : List α} (h : Sl K bytes m a cap xs) (hz : xs.length = 0) : xs = [] := List.length_eq_zero_iff.1 hz
theorem own_append_none {P : Program} {o : Oper} {ρ : Operand → Value} {w : World} {α : Type} {K : Kd α} {bytes : Nat} {E : TypeId} {a : Option Addr} {n cap : Nat} {a2 : Option Addr} {c : Nat} (hn : n ≤ cap)
    (hq : apq P o ρ = some (.slice a n cap, .slice a2 0 c, E, K.size, bytes)) : (execOp ρ o).run P w = .ok (.value (.slice a n cap)) w := by
  obtain ⟨t, i, zv, hT, hi, hz, hzs, hsz, hby, hrun⟩ := apq_told hq
  refine hrun _ _ _ ?_
  have h0 : ∀ k, IntKind.wrap IntKind.i64 k = IntKind.wrap IntKind.i64 k := fun _ => rfl
  cases a <;> cases a2 <;> simp [Builtin.append_, run_underlying hT, sizeOf, typeInfo, hi, Builtin.lenOf, Builtin.firstCells, hn, storeCells, loadCells, loadCellsFrom]
theorem own_append_sl {P : Program} {o : Oper} {ρ : Operand → Value} {w : World} {m : Mem} {z : Base} {G : List Grp} {α : Type} {K : Kd α} {bytes : Nat} {E : TypeId} {a : Option Addr} {cap : Nat} {I : Grp} {xs ys r : List α} {a2 : Option Addr} {c : Nat}
    (hq : apq P o ρ = some (.slice a xs.length cap, .slice a2 ys.length c, E, K.size, bytes)) (hst : St z w m (I :: G)) (ho : OwnSl K bytes E m a cap I xs) (hs : Sl K bytes m a2 c ys) (hr : app bytes xs ys = some r) :
    ∃ a' cap' I' w', (execOp ρ o).run P w = .ok (.value (.slice a' r.length cap')) w' ∧ St z w' m (I' :: G) ∧ OwnSl K bytes E m a' cap' I' r := by
  by_cases hne : 0 < ys.length
  · obtain ⟨ad, news, rfl, h2, h3, h4⟩ := hs.cells hne
    exact own_append hq hst ho h2 (h4 hst) h3 hne hr
  · have h0 : ys = [] := List.length_eq_zero_iff.1 (by omega)
    subst h0
    obtain ⟨rfl, _, _⟩ := app_some hr
    have hlc : xs.length ≤ cap := by
      obtain ⟨_, _, h3⟩ := ho
      rcases h3 with ⟨_, _, h, _⟩ | ⟨_, _, _, _, h, _⟩
      · subst h; simp
      · exact h
    refine ⟨a, cap, I, w, ?_, hst, by simpa using ho⟩
    have := own_append_none (w := w) (K := K) hlc (by simpa using hq)
    simpa using this

/-! ### 6. Maps' lengths, division -/

def mlq (P : Program) (o : Oper) (ρ : Operand → Value) : Option (Option Nat) :=
  match o.op with
  | .call c => match c.callee, c.args.toList, c.argTypes.toList with
    | .builtin .len, [x], [t] => match ρ x, P.underlying t with
      | .map r, some (.map _ _) => some r
      | _, _ => none
    | _, _, _ => none
  | _ => none
theorem mlq_run {P : Program} {o : Oper} {ρ : Operand → Value} {w : World} {r : Option Nat} {n : Nat} (h : mlq P o ρ = some r) (hr : (r = none ∧ n = 0) ∨ ∃ b es clock, r = some b ∧ w.heap[b]? = some (.map es clock) ∧ es.size = n) :
    (execOp ρ o).run P w = .ok (.value (.int .i64 n)) w := by
  unfold mlq at h
  split at h
  case h_2 => cases h
  rename_i c ho
  split at h
  case h_2 => cases h
  rename_i x t hc ha hat
  split at h
  case h_2 => cases h
  rename_i r' kt et hx hT
  simp only [Option.some.injEq] at h
  subst h
  have ha' : c.args = #[x] := by rw [← ha]
  have hat' : c.argTypes[0]? = some t := by
    have : c.argTypes.toList[0]? = some t := by rw [hat]; rfl
    simpa using this
  unfold execOp
  rcases hr with ⟨rfl, rfl⟩ | ⟨b, es, clock, rfl, hb, rfl⟩
  · simp [ho, resolve, hc, ha', invoke, builtin, Builtin.len_, hat', run_underlying hT, hx, goInt]
  · simp [ho, resolve, hc, ha', invoke, builtin, Builtin.len_, hat', run_underlying hT, hx, goInt, getObj, Sem.run, hb]
theorem MapRep.len {κ ν : Type} [BEq κ] {enc : κ → Value} {K : Kd ν} {m : Mem} : ∀ {es : List MapEntry} {kvs : List (κ × ν)}, MapRep enc K m es kvs → es.length = kvs.length
  | [], [], _ => rfl
  | _ :: _, _ :: _, h => by simp [MapRep.len h.2.2]
  | [], _ :: _, h => h.elim
  | _ :: _, [], h => h.elim
theorem imm_mlen {m : Mem} {κ ν : Type} [BEq κ] {enc : κ → Value} {K : Kd ν} {r : Option Nat} {kvs : List (κ × ν)} (hm : ImmM enc K m r kvs) {P : Program} {o : Oper} {ρ : Operand → Value} {z : Base} {w : World} {G : List Grp} (hq : mlq P o ρ = some r) (hst : St z w m G) :
    (execOp ρ o).run P w = .ok (.value (.int .i64 (kvs.length : Int))) w := by
  refine mlq_run (n := kvs.length) hq ?_
  rcases hm.2 with ⟨h1, h2⟩ | ⟨b, es, clock, h1, h2, h3⟩
  · subst h2; exact .inl ⟨h1, rfl⟩
  · exact .inr ⟨b, es, clock, h1, hst.sub _ _ h2, by simpa using h3.len⟩
theorem own_mlen {m : Mem} {κ ν : Type} [BEq κ] {enc : κ → Value} {K : Kd ν} {r : Nat} {I : Grp} {kvs : List (κ × ν)} (hm : OwnM enc K m r I kvs) {P : Program} {o : Oper} {ρ : Operand → Value} {z : Base} {w : World} {G : List Grp} (hq : mlq P o ρ = some (some r)) (hst : St z w m (I :: G)) :
    (execOp ρ o).run P w = .ok (.value (.int .i64 (kvs.length : Int))) w := by
  obtain ⟨_, es, clock, rfl, h3⟩ := hm
  exact mlq_run (n := kvs.length) hq (.inr ⟨r, es, clock, rfl, hst.get (by simp), by simpa using h3.len⟩)

def remI (x y : Int) : Option Int := if y = 0 then none else some (x.tmod y)
def quoI (k : IntKind) (x y : Int) : Option Int := if y = 0 then none else some (k.wrap (x.tdiv y))
theorem tmod_in {k : IntKind} {x y : Int} (hx : InR k x) : InR k (x.tmod y) := by
  have hn : (x.tmod y).natAbs ≤ x.natAbs := by rw [Int.natAbs_tmod]; exact Nat.mod_le _ _
  have hp : 0 ≤ x → 0 ≤ x.tmod y := fun h0 => Int.tmod_nonneg y h0
  have hm : x ≤ 0 → x.tmod y ≤ 0 := fun h0 => by
    have h1 : 0 ≤ (-x).tmod y := Int.tmod_nonneg y (by omega)
    rw [Int.neg_tmod] at h1
    omega
  rcases Int.le_total 0 x with h0 | h0
  · have := hp h0; cases k <;> simp only [InR] at hx ⊢ <;> omega
  · have := hm h0; cases k <;> simp only [InR] at hx ⊢ <;> omega
def dvq (o : Oper) (ρ : Operand → Value) : Option (Bool × IntKind × Int × Int) :=
  match o.op with
  | .binOp op _ x y _ => match op, ρ x, ρ y with
    | .quo, .int k a, .int k' b => if k = k' then some (true, k, a, b) else none
    | .rem, .int k a, .int k' b => if k = k' then some (false, k, a, b) else none
    | _, _, _ => none
  | _ => none
theorem rem_run {P : Program} {o : Oper} {ρ : Operand → Value} {w : World} {k : IntKind} {x y r : Int} (hq : dvq o ρ = some (false, k, x, y)) (hr : remI x y = some r) : (execOp ρ o).run P w = .ok (.value (.int k r)) w := by
  unfold remI at hr
  split at hr
  · cases hr
  rename_i hy
  injection hr with hr
  subst hr
  unfold dvq at hq
  split at hq
  case h_2 => cases hq
  rename_i op t x' y' u ho
  split at hq
  · split at hq <;> simp at hq
  · rename_i k1 a1 k2 b1 hx1 hy1
    split at hq
    case isFalse => cases hq
    rename_i hk
    simp only [Option.some.injEq, Prod.mk.injEq] at hq
    obtain ⟨_, rfl, rfl, rfl⟩ := hq
    subst hk
    unfold execOp
    simp [ho, hx1, hy1, binOp, eqGuard, Op.intDiv, hy]
  · cases hq
theorem quo_run {P : Program} {o : Oper} {ρ : Operand → Value} {w : World} {k : IntKind} {x y r : Int} (hq : dvq o ρ = some (true, k, x, y)) (hr : quoI k x y = some r) : (execOp ρ o).run P w = .ok (.value (.int k r)) w := by
  unfold quoI at hr
  split at hr
  · cases hr
  rename_i hy
  injection hr with hr
  subst hr
  unfold dvq at hq
  split at hq
  case h_2 => cases hq
  rename_i op t x' y' u ho
  split at hq
  · rename_i k1 a1 k2 b1 hx1 hy1
    split at hq
    case isFalse => cases hq
    rename_i hk
    simp only [Option.some.injEq, Prod.mk.injEq] at hq
    obtain ⟨_, rfl, rfl, rfl⟩ := hq
    subst hk
    unfold execOp
    simp [ho, hx1, hy1, binOp, eqGuard, Op.intDiv, hy]
  · split at hq <;> simp at hq
  · cases hq
end Go.Proofs.Ytcnlbnccghjeaaa.W
