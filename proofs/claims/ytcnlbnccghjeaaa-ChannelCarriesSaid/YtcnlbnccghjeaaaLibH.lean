/- Maps, as lists of keys and values, each key once. Conditions: none. -/
import Derived.Test.YtcnlbnccghjeaaaLibG
set_option linter.unusedVariables false
set_option linter.unusedSimpArgs false
namespace Go.Proofs.Ytcnlbnccghjeaaa.W
open Go

/-! ### 1. Values by themselves -/

/-- A value (not in memory) tells x. -/
def Vl {α : Type} (K : Kd α) (m : Mem) (v : Value) (x : α) : Prop := (K.agg = true ∧ ∃ l : List Value, v = .agg l.toArray ∧ l.length = K.size ∧ K.rep m (cells l) x) ∨ (K.agg = false ∧ K.size = 1 ∧ K.rep m (cells [v]) x)
theorem Vl.mono {α : Type} {K : Kd α} {m m' : Mem} {v : Value} {x : α} (h : Vl K m v x) (hm : m.le m') : Vl K m' v x := by
  rcases h with ⟨h1, l, h2, h3, h4⟩ | ⟨h1, h2, h3⟩
  · exact .inl ⟨h1, l, h2, h3, K.mono hm h4⟩
  · exact .inr ⟨h1, h2, K.mono hm h3⟩
theorem Vl.agg {α : Type} {K : Kd α} {m : Mem} {l : List Value} {x : α} (h1 : K.agg = true) (h2 : l.length = K.size) (h3 : K.rep m (cells l) x) : Vl K m (.agg l.toArray) x := .inl ⟨h1, l, rfl, h2, h3⟩
theorem Vl.one {α : Type} {K : Kd α} {m : Mem} {v : Value} {x : α} (h1 : K.agg = false) (h2 : K.size = 1) (h3 : K.rep m (cells [v]) x) : Vl K m v x := .inr ⟨h1, h2, h3⟩
theorem cells_ext : ∀ (l l' : List Value), l.length = l'.length → (∀ j, j < l.length → cells l j = cells l' j) → l = l'
  | [], [], _, _ => rfl
  | [], _ :: _, h, _ => by simp at h
  | _ :: _, [], h, _ => by simp at h
  | v :: l, v' :: l', h, hc => by
    have h0 := hc 0 (by simp)
    have ih := cells_ext l l' (by simpa using h) (fun j hj => hc (j + 1) (by simpa using hj))
    simp only [cells] at h0
    rw [h0, ih]
/-- An aggregate's cells, told one by one. -/
theorem Vl.cellsA {α : Type} {K : Kd α} {m : Mem} {v : Value} {x : α} (h : Vl K m v x) (ha : K.agg = true) : ∃ l, v = .agg l.toArray ∧ l.length = K.size ∧ K.rep m (cells l) x := by
  rcases h with ⟨_, h⟩ | ⟨h, _⟩
  · exact h
  · rw [h] at ha; cases ha
theorem Vl.cells1 {α : Type} {K : Kd α} {m : Mem} {v : Value} {x : α} (h : Vl K m v x) (ha : K.agg = false) : K.rep m (cells [v]) x := by
  rcases h with ⟨h, _⟩ | ⟨_, _, h⟩
  · rw [h] at ha; cases ha
  · exact h

/-! ### 2. Keys -/

structure KeyOk (P : Program) (T : TypeId) {κ : Type} [BEq κ] (enc : κ → Value) : Prop where
  chk : ∀ (e : Bool) (k : κ) (w : World), (Instr.checkKey e 10000 T (enc k)).run P w = .ok () w
  find : ∀ (k : κ) (es : List MapEntry) (ks : List κ), es.map (·.key) = ks.map enc → ∀ w : World, (Instr.findKey T (enc k) es).run P w = .ok ((ks.findIdx? (· == k)).bind fun i => (es[i]?).map fun e => (i, e.val)) w
  same : ∀ k : κ, Instr.sameBits 10000 (enc k) (enc k) = true
  law : LawfulBEq κ

theorem findNow_told {κ : Type} [BEq κ] {enc : κ → Value} {d : TypeDesc} (h : ∀ a b : κ, Instr.sameNow d (enc a) (enc b) = some (b == a)) (k : κ) : ∀ (es : List MapEntry) (ks : List κ) (i : Nat), es.map (·.key) = ks.map enc →
    Instr.findNow d (enc k) es i = some ((ks.findIdx? (· == k)).bind fun j => (es[j]?).map fun e => (i + j, e.val))
  | [], [], i, _ => by simp [Instr.findNow]
  | [], _ :: _, _, h2 => by simp at h2
  | _ :: _, [], _, h2 => by simp at h2
  | e :: es, k0 :: ks, i, h2 => by
    simp only [List.map_cons, List.cons.injEq] at h2
    simp only [Instr.findNow, h2.1, h]
    cases hb : (k0 == k) with
    | true => simp [List.findIdx?_cons, hb]
    | false =>
      have ih := findNow_told h k es ks (i + 1) h2.2
      simp only [ih, List.findIdx?_cons, hb]
      cases ks.findIdx? (· == k) with
      | none => simp
      | some j => simp [Nat.add_assoc, Nat.add_comm 1 j]

theorem chk_easy {P : Program} {T : TypeId} {d : TypeDesc} {v : Value} (hT : P.underlying T = some d) (hd : (∃ k, d = .int k) ∨ d = .string ∨ d = .bool) (e : Bool) (w : World) : (Instr.checkKey e 10000 T v).run P w = .ok () w := by
  have h1 : ∀ n, (Instr.checkKey e (n + 1) T v).run P w = .ok () w := by
    intro n
    unfold Instr.checkKey
    simp only [Sem.run_bind, run_underlying hT, Result.andThen_ok]
    rcases hd with ⟨k, rfl⟩ | rfl | rfl <;> rfl
  exact h1 9999
instance lawfulBytes : LawfulBEq ByteArray where
  eq_of_beq {a b} h := by
    cases a; cases b
    have h1 := h
    simp only [BEq.beq] at h1
    congr 1
    exact eq_of_beq h1
  rfl {a} := by
    cases a
    simp only [BEq.beq]
    exact beq_self_eq_true _
theorem beq_swap {κ : Type} [BEq κ] [LawfulBEq κ] (a b : κ) : (a == b) = (b == a) := by
  cases h : (b == a) with
  | true => rw [eq_of_beq h]; exact beq_self_eq_true _
  | false =>
    cases h' : (a == b) with
    | false => rfl
    | true => rw [eq_of_beq h', beq_self_eq_true] at h; cases h
theorem keyInt {P : Program} {T : TypeId} {k : IntKind} (hT : P.underlying T = some (.int k)) : KeyOk P T (fun x : Int => Value.int k x) := by
  refine ⟨fun e x w => chk_easy hT (.inl ⟨k, rfl⟩) e w, fun x es ks h w => ?_, fun x => ?_, inferInstance⟩
  · have h1 : ∀ a b : Int, Instr.sameNow (.int k) (.int k a) (.int k b) = some (b == a) := fun a b => by
      rw [beq_swap b a]; simp [Instr.sameNow]
    have := findNow_told (enc := fun x : Int => Value.int k x) h1 x es ks 0 h
    simp only [Nat.zero_add] at this
    simp [Instr.findKey, run_underlying hT, this]
  · show ((k == k) && (x == x)) = true
    simp
theorem keyStr {P : Program} {T : TypeId} (hT : P.underlying T = some .string) : KeyOk P T (fun x : ByteArray => Value.string x) := by
  refine ⟨fun e x w => chk_easy hT (.inr (.inl rfl)) e w, fun x es ks h w => ?_, fun x => ?_, inferInstance⟩
  · have h1 : ∀ a b : ByteArray, Instr.sameNow .string (.string a) (.string b) = some (b == a) := fun a b => by
      rw [beq_swap b a]; simp [Instr.sameNow]
    have := findNow_told (enc := fun x : ByteArray => Value.string x) h1 x es ks 0 h
    simp only [Nat.zero_add] at this
    simp [Instr.findKey, run_underlying hT, this]
  · show (x == x) = true
    simp

/-! ### 3. Maps as lists -/

def mfind {κ ν : Type} [BEq κ] (kvs : List (κ × ν)) (k : κ) : Option Nat := (kvs.map (·.1)).findIdx? (· == k)
def mget {κ ν : Type} [BEq κ] : List (κ × ν) → κ → Option ν
  | [], _ => none
  | (k0, v) :: r, k => if k0 == k then some v else mget r k
def mset {κ ν : Type} [BEq κ] : List (κ × ν) → κ → ν → List (κ × ν)
  | [], k, v => [(k, v)]
  | (k0, v0) :: r, k, v => if k0 == k then (k, v) :: r else (k0, v0) :: mset r k v
def mdel {κ ν : Type} [BEq κ] : List (κ × ν) → κ → List (κ × ν)
  | [], _ => []
  | (k0, v0) :: r, k => if k0 == k then r else (k0, v0) :: mdel r k
def mput {κ ν : Type} [BEq κ] (kvs : List (κ × ν)) (k : κ) (v : ν) : Option (List (κ × ν)) := if kvs.length + 1 ≤ reach then some (mset kvs k v) else none
/-- What a lookup tells: the value, or the zero value, and whether it was there. -/
def mlook {κ ν : Type} [BEq κ] (kvs : List (κ × ν)) (k : κ) (zero : ν) : Option (ν × Bool) := some (match mget kvs k with | some v => (v, true) | none => (zero, false))

def MapRep {κ ν : Type} (enc : κ → Value) (K : Kd ν) (m : Mem) : List MapEntry → List (κ × ν) → Prop
  | [], [] => True
  | e :: es, p :: ps => e.key = enc p.1 ∧ Vl K m e.val p.2 ∧ MapRep enc K m es ps
  | _, _ => False
section
variable {κ ν : Type} {enc : κ → Value} {K : Kd ν} {m m' : Mem}
theorem MapRep.mono (hm : m.le m') : ∀ {es : List MapEntry} {kvs : List (κ × ν)}, MapRep enc K m es kvs → MapRep enc K m' es kvs
  | [], [], _ => trivial
  | e :: es, p :: ps, h => ⟨h.1, h.2.1.mono hm, MapRep.mono hm h.2.2⟩
  | [], _ :: _, h => h.elim
  | _ :: _, [], h => h.elim
theorem MapRep.keys : ∀ {es : List MapEntry} {kvs : List (κ × ν)}, MapRep enc K m es kvs → es.map (·.key) = (kvs.map (·.1)).map enc
  | [], [], _ => rfl
  | e :: es, p :: ps, h => by simp only [List.map_cons, h.1, MapRep.keys h.2.2]
  | [], _ :: _, h => h.elim
  | _ :: _, [], h => h.elim
theorem MapRep.length : ∀ {es : List MapEntry} {kvs : List (κ × ν)}, MapRep enc K m es kvs → es.length = kvs.length
  | [], [], _ => rfl
  | e :: es, p :: ps, h => by simp only [List.length_cons, MapRep.length h.2.2]
  | [], _ :: _, h => h.elim
  | _ :: _, [], h => h.elim

variable [BEq κ]
/-- Where a key stands, and what stands there. -/
theorem MapRep.find (k : κ) : ∀ {es : List MapEntry} {kvs : List (κ × ν)}, MapRep enc K m es kvs →
    (∃ i e v, mfind kvs k = some i ∧ es[i]? = some e ∧ mget kvs k = some v ∧ Vl K m e.val v) ∨ (mfind kvs k = none ∧ mget kvs k = none)
  | [], [], _ => .inr ⟨rfl, rfl⟩
  | e :: es, (k0, v0) :: ps, h => by
    cases hb : (k0 == k) with
    | true => exact .inl ⟨0, e, v0, by simp [mfind, List.findIdx?_cons, hb], rfl, by simp [mget, hb], h.2.1⟩
    | false =>
      rcases MapRep.find k h.2.2 with ⟨i, e', v, h1, h2, h3, h4⟩ | ⟨h1, h2⟩
      · refine .inl ⟨i + 1, e', v, ?_, by simpa using h2, by simp [mget, hb, h3], h4⟩
        unfold mfind at h1 ⊢
        simp [List.findIdx?_cons, hb, h1]
      · refine .inr ⟨?_, by simp [mget, hb, h2]⟩
        unfold mfind at h1 ⊢
        simp only [List.map_cons, List.findIdx?_cons, hb, h1]
        rfl
  | [], _ :: _, h => h.elim
  | _ :: _, [], h => h.elim
theorem MapRep.put_new (k : κ) (v : ν) (vv : Value) (born : Nat) (hv : Vl K m vv v) : ∀ {es : List MapEntry} {kvs : List (κ × ν)}, MapRep enc K m es kvs → mfind kvs k = none → MapRep enc K m (es ++ [{ key := enc k, val := vv, born }]) (mset kvs k v)
  | [], [], _, _ => ⟨rfl, hv, trivial⟩
  | e :: es, (k0, v0) :: ps, h, hn => by
    unfold mfind at hn
    simp only [List.map_cons, List.findIdx?_cons] at hn
    cases hb : (k0 == k) with
    | true => simp [hb] at hn
    | false =>
      have hn2 : mfind ps k = none := by unfold mfind; simpa [hb] using hn
      simp only [mset, hb, List.cons_append, Bool.false_eq_true, if_false]
      exact ⟨h.1, h.2.1, MapRep.put_new k v vv born hv h.2.2 hn2⟩
  | [], _ :: _, h, _ => h.elim
  | _ :: _, [], h, _ => h.elim
theorem MapRep.put_old (k : κ) (v : ν) (vv : Value) (hv : Vl K m vv v) : ∀ {es : List MapEntry} {kvs : List (κ × ν)} {i : Nat}, MapRep enc K m es kvs → mfind kvs k = some i → MapRep enc K m (es.modify i fun e => { e with key := enc k, val := vv }) (mset kvs k v)
  | [], [], i, _, hn => by simp [mfind] at hn
  | e :: es, (k0, v0) :: ps, i, h, hn => by
    unfold mfind at hn
    simp only [List.map_cons, List.findIdx?_cons] at hn
    cases hb : (k0 == k) with
    | true =>
      simp [hb] at hn
      subst hn
      simp only [mset, hb, if_true, List.modify_zero_cons]
      exact ⟨rfl, hv, h.2.2⟩
    | false =>
      simp [hb] at hn
      obtain ⟨j, hj, rfl⟩ := hn
      simp only [mset, hb, Bool.false_eq_true, if_false, List.modify_succ_cons]
      exact ⟨h.1, h.2.1, MapRep.put_old k v vv hv h.2.2 (by unfold mfind; simpa using hj)⟩
  | [], _ :: _, _, h, _ => h.elim
  | _ :: _, [], _, h, _ => h.elim
theorem MapRep.del (k : κ) : ∀ {es : List MapEntry} {kvs : List (κ × ν)} {i : Nat}, MapRep enc K m es kvs → mfind kvs k = some i → MapRep enc K m (es.eraseIdx i) (mdel kvs k)
  | [], [], i, _, hn => by simp [mfind] at hn
  | e :: es, (k0, v0) :: ps, i, h, hn => by
    unfold mfind at hn
    simp only [List.map_cons, List.findIdx?_cons] at hn
    cases hb : (k0 == k) with
    | true =>
      simp [hb] at hn
      subst hn
      simp only [mdel, hb, if_true, List.eraseIdx_cons_zero]
      exact h.2.2
    | false =>
      simp [hb] at hn
      obtain ⟨j, hj, rfl⟩ := hn
      simp only [mdel, hb, Bool.false_eq_true, if_false, List.eraseIdx_cons_succ]
      exact ⟨h.1, h.2.1, MapRep.del k h.2.2 (by unfold mfind; simpa using hj)⟩
  | [], _ :: _, _, h, _ => h.elim
  | _ :: _, [], _, h, _ => h.elim
theorem mdel_none (k : κ) : ∀ {kvs : List (κ × ν)}, mfind kvs k = none → mdel kvs k = kvs
  | [], _ => rfl
  | (k0, v0) :: ps, hn => by
    unfold mfind at hn
    simp only [List.map_cons, List.findIdx?_cons] at hn
    cases hb : (k0 == k) with
    | true => simp [hb] at hn
    | false => simp only [mdel, hb, Bool.false_eq_true, if_false]; rw [mdel_none k (by unfold mfind; simpa [hb] using hn)]
theorem mset_length (k : κ) (v : ν) : ∀ (kvs : List (κ × ν)), (mset kvs k v).length ≤ kvs.length + 1
  | [] => by simp [mset]
  | (k0, v0) :: ps => by
    simp only [mset]
    split
    · simp
    · have := mset_length k v ps; simp; omega
theorem mdel_length (k : κ) : ∀ (kvs : List (κ × ν)), (mdel kvs k).length ≤ kvs.length
  | [] => by simp [mdel]
  | (k0, v0) :: ps => by
    simp only [mdel]
    split
    · simp
    · have := mdel_length k ps; simp; omega
end

/-! ### 4. A map that the call owns, and one that stays -/

def OwnM {κ ν : Type} (enc : κ → Value) (K : Kd ν) (m : Mem) (r : Nat) (I : Grp) (kvs : List (κ × ν)) : Prop :=
  kvs.length ≤ reach ∧ ∃ es clock, I = [(r, .map es clock)] ∧ MapRep enc K m es.toList kvs
/-- A map that stays: nil, or in m. -/
def ImmM {κ ν : Type} (enc : κ → Value) (K : Kd ν) (m : Mem) (r : Option Nat) (kvs : List (κ × ν)) : Prop :=
  kvs.length ≤ reach ∧ ((r = none ∧ kvs = []) ∨ ∃ b es clock, r = some b ∧ m b = some (.map es clock) ∧ MapRep enc K m es.toList kvs)
theorem OwnM.mono {κ ν : Type} [BEq κ] {enc : κ → Value} {K : Kd ν} {m m' : Mem} {r : Nat} {I : Grp} {kvs : List (κ × ν)} (h : OwnM enc K m r I kvs) (hm : m.le m') : OwnM enc K m' r I kvs := by
  obtain ⟨h1, es, clock, h2, h3⟩ := h; exact ⟨h1, es, clock, h2, h3.mono hm⟩
theorem ImmM.mono {κ ν : Type} [BEq κ] {enc : κ → Value} {K : Kd ν} {m m' : Mem} {r : Option Nat} {kvs : List (κ × ν)} (h : ImmM enc K m r kvs) (hm : m.le m') : ImmM enc K m' r kvs := by
  obtain ⟨h1, h2⟩ := h
  refine ⟨h1, h2.imp id ?_⟩
  rintro ⟨b, es, clock, h3, h4, h5⟩
  exact ⟨b, es, clock, h3, hm _ _ h4, h5.mono hm⟩
theorem OwnM.lend {κ ν : Type} [BEq κ] {enc : κ → Value} {K : Kd ν} {z : Base} {w : World} {G : List Grp} {m : Mem} {r : Nat} {I : Grp} {kvs : List (κ × ν)} (h : OwnM enc K m r I kvs) (hst : St z w m (I :: G)) : ImmM enc K (m.add I) (some r) kvs := by
  obtain ⟨h1, es, clock, rfl, h3⟩ := h
  exact ⟨h1, .inr ⟨r, es, clock, rfl, hst.add_mem (by simp), h3.mono (Mem.le_add m _)⟩⟩
theorem OwnM.new {κ ν : Type} {enc : κ → Value} {K : Kd ν} {m : Mem} {b : Nat} : OwnM enc K m b [(b, .map #[] 0)] ([] : List (κ × ν)) := ⟨by simp, _, _, rfl, trivial⟩

/-! ### 5. Lookup, update, delete, len -/

/-- A lookup: the map, the key, with ok or without; the key's type, the zero value. -/
def luq (P : Program) (o : Oper) (ρ : Operand → Value) : Option (Option Nat × Value × Bool × TypeId × Value) :=
  match o.op with
  | .lookup t x i ok => match ρ x, P.underlying t with
    | .map r, some (.map kt et) => match P.info? et with
      | some inf => match inf.zero with
        | some zv => some (r, ρ i, ok, kt, zv)
        | none => none
      | none => none
    | _, _ => none
  | _ => none
def luv (ok : Bool) (v : Value) (b : Bool) : Value := if ok then .tuple #[v, .bool b] else v
theorem lu_core {m : Mem} {κ ν : Type} [BEq κ] {enc : κ → Value} {K : Kd ν} {kt : TypeId} {r : Option Nat} {kvs : List (κ × ν)} {k : κ} {zv : Value} {zero : ν} {res : ν × Bool} {es : Array MapEntry}
    (hz : Vl K m zv zero) (hrep : MapRep enc K m es.toList kvs) (hr : mlook kvs k zero = some res) :
    ∃ v, Vl K m v res.1 ∧ ∀ {P : Program} {o : Oper} {ρ : Operand → Value} {w : World} {ok : Bool}, KeyOk P kt enc → luq P o ρ = some (r, enc k, ok, kt, zv) →
      ((r = none ∧ kvs = []) ∨ ∃ b clock, r = some b ∧ w.heap[b]? = some (.map es clock)) → (execOp ρ o).run P w = .ok (.value (luv ok v res.2)) w := by
  unfold mlook at hr
  injection hr with hr
  rcases hrep.find k with ⟨j, e, v, h2, h3, h4, h5⟩ | ⟨h2, h3⟩
  · rw [h4] at hr
    subst hr
    refine ⟨e.val, h5, fun {P o ρ w ok} hk hq hm => ?_⟩
    unfold luq at hq
    split at hq
    case h_2 => cases hq
    rename_i t x i ok' ho
    split at hq
    case h_2 => cases hq
    rename_i r' kt' et hx hT
    split at hq
    case h_2 => cases hq
    rename_i inf hi
    split at hq
    case h_2 => cases hq
    rename_i zv' hzv
    simp only [Option.some.injEq, Prod.mk.injEq] at hq
    obtain ⟨rfl, hkey, rfl, rfl, rfl⟩ := hq
    rcases hm with ⟨_, rfl⟩ | ⟨b, clock, rfl, hb⟩
    · simp [mget] at h4
    · have h1 := hk.find k es.toList (kvs.map (·.1)) hrep.keys w
      unfold mfind at h2
      rw [h2] at h1
      simp only [Option.bind_some, h3, Option.map_some] at h1
      unfold execOp
      simp [ho, Instr.lookup, run_underlying hT, hx, hkey, hk.chk, h1, getObj, Sem.run, hb, luv]
  · rw [h3] at hr
    subst hr
    refine ⟨zv, hz, fun {P o ρ w ok} hk hq hm => ?_⟩
    unfold luq at hq
    split at hq
    case h_2 => cases hq
    rename_i t x i ok' ho
    split at hq
    case h_2 => cases hq
    rename_i r' kt' et hx hT
    split at hq
    case h_2 => cases hq
    rename_i inf hi
    split at hq
    case h_2 => cases hq
    rename_i zv' hzv
    simp only [Option.some.injEq, Prod.mk.injEq] at hq
    obtain ⟨rfl, hkey, rfl, rfl, rfl⟩ := hq
    unfold execOp
    rcases hm with ⟨rfl, rfl⟩ | ⟨b, clock, rfl, hb⟩
    · have h1 := hk.find k [] [] rfl w
      simp only [List.findIdx?_nil, Option.bind_none] at h1
      simp [ho, Instr.lookup, run_underlying hT, hx, hkey, hk.chk, h1, zeroValue, typeInfo, hi, hzv, luv]
    · have h1 := hk.find k es.toList (kvs.map (·.1)) hrep.keys w
      unfold mfind at h2
      rw [h2] at h1
      simp only [Option.bind_none] at h1
      simp [ho, Instr.lookup, run_underlying hT, hx, hkey, hk.chk, h1, getObj, Sem.run, hb, zeroValue, typeInfo, hi, hzv, luv]

theorem imm_look {m : Mem} {κ ν : Type} [BEq κ] {enc : κ → Value} {K : Kd ν} (kt : TypeId) {r : Option Nat} {kvs : List (κ × ν)} {k : κ} {zv : Value} {zero : ν} {res : ν × Bool} (hz : Vl K m zv zero) (hm : ImmM enc K m r kvs) (hr : mlook kvs k zero = some res) :
    ∃ v, Vl K m v res.1 ∧ ∀ {P : Program} {o : Oper} {ρ : Operand → Value} {z : Base} {w : World} {G : List Grp} {ok : Bool}, KeyOk P kt enc → luq P o ρ = some (r, enc k, ok, kt, zv) → St z w m G → (execOp ρ o).run P w = .ok (.value (luv ok v res.2)) w := by
  rcases hm.2 with ⟨h1, h2⟩ | ⟨b, es, clock, h1, h2, h3⟩
  · subst h2
    obtain ⟨v, h4, h5⟩ := lu_core (es := #[]) (kt := kt) (r := r) hz (enc := enc) (kvs := []) (k := k) trivial hr
    exact ⟨v, h4, fun hk hq hst => h5 hk hq (.inl ⟨h1, rfl⟩)⟩
  · obtain ⟨v, h4, h5⟩ := lu_core (es := es) (kt := kt) (r := r) hz (enc := enc) (kvs := kvs) (k := k) h3 hr
    exact ⟨v, h4, fun hk hq hst => h5 hk hq (.inr ⟨b, clock, h1, hst.sub _ _ h2⟩)⟩
theorem own_look {m : Mem} {κ ν : Type} [BEq κ] {enc : κ → Value} {K : Kd ν} (kt : TypeId) {r : Nat} {I : Grp} {kvs : List (κ × ν)} {k : κ} {zv : Value} {zero : ν} {res : ν × Bool} (hz : Vl K m zv zero) (hm : OwnM enc K m r I kvs) (hr : mlook kvs k zero = some res) :
    ∃ v, Vl K m v res.1 ∧ ∀ {P : Program} {o : Oper} {ρ : Operand → Value} {z : Base} {w : World} {G : List Grp} {ok : Bool}, KeyOk P kt enc → luq P o ρ = some (some r, enc k, ok, kt, zv) → St z w m (I :: G) → (execOp ρ o).run P w = .ok (.value (luv ok v res.2)) w := by
  obtain ⟨_, es, clock, rfl, h3⟩ := hm
  obtain ⟨v, h4, h5⟩ := lu_core (es := es) (kt := kt) (r := some r) hz (enc := enc) (kvs := kvs) (k := k) h3 hr
  exact ⟨v, h4, fun hk hq hst => h5 hk hq (.inr ⟨r, clock, rfl, hst.get (by simp)⟩)⟩

def upq (P : Program) (o : Oper) (ρ : Operand → Value) : Option (Nat × Value × TypeId × Value) :=
  match o.op with
  | .mapUpdate t x k v => match ρ x, P.underlying t with
    | .map (some r), some (.map kt _) => some (r, ρ k, kt, ρ v)
    | _, _ => none
  | .insert t x k v => match ρ x, P.underlying t with
    | .map (some r), some (.map kt _) => some (r, ρ k, kt, ρ v)
    | _, _ => none
  | _ => none
theorem run_update {P : Program} {w : World} {m : Mem} {z : Base} {G : List Grp} {κ ν : Type} [BEq κ] {enc : κ → Value} {K : Kd ν} {t kt et : TypeId} (hk : KeyOk P kt enc) {r : Nat} {I : Grp} {kvs r' : List (κ × ν)} {k : κ} {v : ν} {vv : Value}
    (hT : P.underlying t = some (.map kt et)) (hv : Vl K m vv v) (hm : OwnM enc K m r I kvs) (hst : St z w m (I :: G)) (hr : mput kvs k v = some r') :
    ∃ I' w', (Instr.mapUpdate t (.map (some r)) (enc k) vv).run P w = .ok () w' ∧ St z w' m (I' :: G) ∧ OwnM enc K m r I' r' := by
  unfold mput at hr
  split at hr
  case isFalse => cases hr
  rename_i hlen
  injection hr with hr
  subst hr
  obtain ⟨_, es, clock, rfl, hrep⟩ := hm
  have hb := hst.get (b := r) (o := .map es clock) (by simp)
  have h1 := hk.find k es.toList (kvs.map (·.1)) hrep.keys w
  rcases hrep.find k with ⟨j, e, v', h2, h3, h4, h5⟩ | ⟨h2, h3⟩
  · have h2' := h2
    unfold mfind at h2
    rw [h2] at h1
    simp only [Option.bind_some, h3, Option.map_some] at h1
    have h3' : es[j]? = some e := by simpa using h3
    have hek : e.key = enc k := by
      have hkeys := hrep.keys
      have ha : (es.toList.map (·.key))[j]? = some e.key := by simp [h3']
      rw [hkeys] at ha
      have hx := List.findIdx?_eq_some_iff_getElem.1 h2
      obtain ⟨hlt, hp, _⟩ := hx
      have := hk.law
      have heq := eq_of_beq hp
      simp only [List.getElem?_map, List.getElem?_eq_getElem hlt, Option.map_some, Option.some.injEq] at ha
      rw [heq] at ha
      exact ha.symm
    have hst' := hst.setObj (.map (es.modify j fun e => { e with key := enc k, val := vv }) clock)
    refine ⟨_, _, ?_, hst', Nat.le_trans (mset_length k v kvs) hlen, _, _, rfl, ?_⟩
    · simp [Instr.mapUpdate, run_underlying hT, hk.chk, h1, getObj, setObj, Sem.run, hb, h3', hek, Instr.keyThatStays, hk.same]
    · have := hrep.put_old k v vv hv h2'
      simpa using this
  · have h2' := h2
    unfold mfind at h2
    rw [h2] at h1
    simp only [Option.bind_none] at h1
    have hst' := hst.setObj (.map (es.push { key := enc k, val := vv, born := clock }) (clock + 1))
    refine ⟨_, _, ?_, hst', Nat.le_trans (mset_length k v kvs) hlen, _, _, rfl, ?_⟩
    · simp [Instr.mapUpdate, run_underlying hT, hk.chk, h1, getObj, setObj, Sem.run, hb]
    · have := hrep.put_new k v vv clock hv h2'
      simpa using this
theorem own_update {P : Program} {o : Oper} {ρ : Operand → Value} {w : World} {m : Mem} {z : Base} {G : List Grp} {κ ν : Type} [BEq κ] {enc : κ → Value} {K : Kd ν} {kt : TypeId} (hk : KeyOk P kt enc) {r : Nat} {I : Grp} {kvs r' : List (κ × ν)} {k : κ} {v : ν} {vv : Value}
    (hq : upq P o ρ = some (r, enc k, kt, vv)) (hv : Vl K m vv v) (hm : OwnM enc K m r I kvs) (hst : St z w m (I :: G)) (hr : mput kvs k v = some r') :
    ∃ I' w', (execOp ρ o).run P w = .ok .skip w' ∧ St z w' m (I' :: G) ∧ OwnM enc K m r I' r' := by
  unfold upq at hq
  split at hq
  case h_3 => cases hq
  all_goals
    rename_i t x k' v' ho
    split at hq
    case h_2 => cases hq
    rename_i r0 kt' et hx hT
    simp only [Option.some.injEq, Prod.mk.injEq] at hq
    obtain ⟨rfl, hkk, rfl, hvv⟩ := hq
    obtain ⟨I', w', h1, h2, h3⟩ := run_update hk hT hv hm hst hr
    refine ⟨I', w', ?_, h2, h3⟩
    unfold execOp
    simp [ho, hx, hkk, hvv, h1]

def delq (P : Program) (o : Oper) (ρ : Operand → Value) : Option (Nat × Value × TypeId) :=
  match o.op with
  | .call c => match c.callee, c.args.toList, c.argTypes.toList with
    | .builtin .delete, [x, k], t :: _ => match ρ x, P.underlying t with
      | .map (some r), some (.map kt _) => some (r, ρ k, kt)
      | _, _ => none
    | _, _, _ => none
  | _ => none
theorem own_delete {P : Program} {o : Oper} {ρ : Operand → Value} {w : World} {m : Mem} {z : Base} {G : List Grp} {κ ν : Type} [BEq κ] {enc : κ → Value} {K : Kd ν} {kt : TypeId} (hk : KeyOk P kt enc) {r : Nat} {I : Grp} {kvs : List (κ × ν)} {k : κ}
    (hq : delq P o ρ = some (r, enc k, kt)) (hm : OwnM enc K m r I kvs) (hst : St z w m (I :: G)) :
    ∃ I' w', (execOp ρ o).run P w = .ok (.value (.tuple #[])) w' ∧ St z w' m (I' :: G) ∧ OwnM enc K m r I' (mdel kvs k) := by
  unfold delq at hq
  split at hq
  case h_2 => cases hq
  rename_i c ho
  split at hq
  case h_2 => cases hq
  rename_i x k' t ts hc ha hat
  split at hq
  case h_2 => cases hq
  rename_i r0 kt' et hx hT
  simp only [Option.some.injEq, Prod.mk.injEq] at hq
  obtain ⟨rfl, hkk, rfl⟩ := hq
  obtain ⟨hlen, es, clock, rfl, hrep⟩ := hm
  have hb := hst.get (b := r0) (o := .map es clock) (by simp)
  have h1 := hk.find k es.toList (kvs.map (·.1)) hrep.keys w
  have ha' : c.args = #[x, k'] := by rw [← ha]
  have hat' : c.argTypes[0]? = some t := by
    have : c.argTypes.toList[0]? = some t := by rw [hat]; rfl
    simpa using this
  rcases hrep.find k with ⟨j, e, v', h2, h3, h4, h5⟩ | ⟨h2, h3⟩
  · have h2' := h2
    unfold mfind at h2
    rw [h2] at h1
    simp only [Option.bind_some, h3, Option.map_some] at h1
    have hst' := hst.setObj (.map (es.eraseIdxIfInBounds j) clock)
    refine ⟨_, _, ?_, hst', Nat.le_trans (mdel_length k kvs) hlen, _, _, rfl, ?_⟩
    · unfold execOp
      simp [ho, resolve, hc, ha', invoke, builtin, Builtin.delete_, hat', run_underlying hT, hx, hkk, hk.chk, h1, getObj, setObj, Sem.run, hb]
    · have := hrep.del k h2'
      have hjl : j < es.size := by
        have := (List.getElem?_eq_some_iff.1 h3).1
        simpa using this
      simpa [Array.eraseIdxIfInBounds, hjl] using this
  · have h2' := h2
    unfold mfind at h2
    rw [h2] at h1
    simp only [Option.bind_none] at h1
    have hst' := hst.setObj (.map es clock)
    refine ⟨_, _, ?_, hst', Nat.le_trans (mdel_length k kvs) hlen, _, _, rfl, ?_⟩
    · unfold execOp
      simp [ho, resolve, hc, ha', invoke, builtin, Builtin.delete_, hat', run_underlying hT, hx, hkk, hk.chk, h1, getObj, setObj, Sem.run, hb]
    · rw [mdel_none k h2']
      exact hrep
end Go.Proofs.Ytcnlbnccghjeaaa.W
