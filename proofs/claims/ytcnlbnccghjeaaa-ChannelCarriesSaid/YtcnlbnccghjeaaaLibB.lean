/- Memory as the walks tell it: what stays as it is (a ghost m), what the call owns (groups of blocks), and how cells tell plain data. Conditions: none. -/
import Derived.Test.YtcnlbnccghjeaaaLibA
import Derived.Laws.AppendOwn
import Derived.Below
import Derived.Laws.Sem
set_option linter.unusedVariables false
set_option linter.unusedSimpArgs false
namespace Go.Proofs.Ytcnlbnccghjeaaa.W
open Go

/-! ### 1. Worlds -/

abbrev Mem := Nat → Option Obj
abbrev Grp := List (Nat × Obj)
structure Base where
  os : Os
  tape : Nat → Question → Nat
  output : Array (Nat × ByteArray)
/-- m: memory that stays as it is; L: the blocks that somebody owns, each once. -/
structure St0 (z : Base) (w : World) (m : Mem) (L : Grp) : Prop where
  os : w.os = z.os
  tape : w.tape = z.tape
  output : w.output = z.output
  sub : ∀ b o, m b = some o → w.heap[b]? = some o
  own : ∀ b o, (b, o) ∈ L → w.heap[b]? = some o ∧ m b = none
  nd : (L.map (·.1)).Nodup
/-- The same, told by groups. -/
def St (z : Base) (w : World) (m : Mem) (G : List Grp) : Prop := St0 z w m G.flatten
def Mem.le (m m' : Mem) : Prop := ∀ b o, m b = some o → m' b = some o
theorem Mem.le.refl (m : Mem) : m.le m := fun _ _ h => h
theorem Mem.le.trans {m m1 m2 : Mem} (h : m.le m1) (h' : m1.le m2) : m.le m2 := fun b o hb => h' b o (h b o hb)

theorem heap_lt {w : World} {b : Nat} {o : Obj} (h : w.heap[b]? = some o) : b < w.heap.size := (Array.getElem?_eq_some_iff.1 h).1
theorem St0.mem_lt {z : Base} {w : World} {m : Mem} {L : Grp} (h : St0 z w m L) {b : Nat} {o : Obj} (hb : m b = some o) : b < w.heap.size := heap_lt (h.sub b o hb)
theorem St0.own_lt {z : Base} {w : World} {m : Mem} {L : Grp} (h : St0 z w m L) {b : Nat} {o : Obj} (hb : (b, o) ∈ L) : b < w.heap.size := heap_lt (h.own b o hb).1
theorem St0.fresh {z : Base} {w : World} {m : Mem} {L : Grp} (h : St0 z w m L) {b : Nat} (hb : w.heap.size ≤ b) : m b = none := by
  cases hm : m b with
  | none => rfl
  | some o => have := h.mem_lt hm; omega

/-- A count of draws is no part of it. -/
theorem St.drawn {z : Base} {w : World} {m : Mem} {G : List Grp} (h : St z w m G) (n : Nat) : St z { w with drawn := n } m G :=
  ⟨h.os, h.tape, h.output, h.sub, h.own, h.nd⟩

theorem St0.perm {z : Base} {w : World} {m : Mem} {L L' : Grp} (h : St0 z w m L) (hp : L.Perm L') : St0 z w m L' :=
  ⟨h.os, h.tape, h.output, h.sub, fun b o hb => h.own b o (hp.mem_iff.2 hb), ((hp.map (·.1)).nodup_iff).1 h.nd⟩
theorem perm_front {α : Type} (pre : List (List α)) (I : List α) (post : List (List α)) : (pre ++ I :: post).flatten.Perm (I :: (pre ++ post)).flatten := by
  simp only [List.flatten_append, List.flatten_cons]
  rw [← List.append_assoc, ← List.append_assoc]
  exact List.Perm.append_right _ (List.perm_append_comm)
/-- Another group to the front. -/
theorem St.front {z : Base} {w : World} {m : Mem} (pre : List Grp) {I : Grp} {post : List Grp} (h : St z w m (pre ++ I :: post)) : St z w m (I :: (pre ++ post)) :=
  St0.perm h (perm_front pre I post)
theorem St.back {z : Base} {w : World} {m : Mem} (pre : List Grp) {I : Grp} {post : List Grp} (h : St z w m (I :: (pre ++ post))) : St z w m (pre ++ I :: post) :=
  St0.perm h (perm_front pre I post).symm
/-- A group is given up. -/
theorem St.drop1 {z : Base} {w : World} {m : Mem} {I : Grp} {G : List Grp} (h : St z w m (I :: G)) : St z w m G :=
  ⟨h.os, h.tape, h.output, h.sub, fun b o hb => h.own b o (by simp only [List.flatten_cons, List.mem_append]; exact .inr hb),
    by have := h.nd; simp only [List.flatten_cons, List.map_append] at this; exact (List.nodup_append.1 this).2.1⟩
theorem St.drop {z : Base} {w : World} {m : Mem} (pre : List Grp) {I : Grp} {post : List Grp} (h : St z w m (pre ++ I :: post)) : St z w m (pre ++ post) := (h.front pre).drop1
/-- Two groups as one, and back. -/
theorem St.join {z : Base} {w : World} {m : Mem} {I J : Grp} {G : List Grp} (h : St z w m (I :: J :: G)) : St z w m ((I ++ J) :: G) := by
  unfold St at *; simpa using h
theorem St.split {z : Base} {w : World} {m : Mem} {I J : Grp} {G : List Grp} (h : St z w m ((I ++ J) :: G)) : St z w m (I :: J :: G) := by
  unfold St at *; simpa using h
theorem St.nil {z : Base} {w : World} {m : Mem} {G : List Grp} (h : St z w m G) : St z w m ([] :: G) := by
  unfold St at *; simpa using h
theorem St.unnil {z : Base} {w : World} {m : Mem} {G : List Grp} (h : St z w m ([] :: G)) : St z w m G := by
  unfold St at *; simpa using h

/-! ### 2. New blocks, and blocks that are written -/

theorem St.alloc {z : Base} {w : World} {m : Mem} {G : List Grp} (h : St z w m G) (o : Obj) : St z (w.alloc o) m ([(w.heap.size, o)] :: G) := by
  refine ⟨h.os, h.tape, h.output, fun b u hb => ?_, fun b u hb => ?_, ?_⟩
  · have hl := h.mem_lt hb
    rw [heap_alloc_old w o b hl]
    exact h.sub b u hb
  · simp only [List.flatten_cons, List.singleton_append, List.mem_cons] at hb
    rcases hb with hb | hb
    · simp only [Prod.mk.injEq] at hb
      obtain ⟨h1, h2⟩ := hb
      subst h1 h2
      exact ⟨heap_alloc_new w _, h.fresh (Nat.le_refl _)⟩
    · have hl := h.own_lt hb
      exact ⟨by rw [heap_alloc_old w o b hl]; exact (h.own b u hb).1, (h.own b u hb).2⟩
  · simp only [List.flatten_cons, List.singleton_append, List.map_cons, List.nodup_cons]
    refine ⟨fun hm => ?_, h.nd⟩
    obtain ⟨p, hp, he⟩ := List.mem_map.1 hm
    have := h.own_lt (b := p.1) (o := p.2) hp
    omega

/-- Whoever changes one owned block alone, and makes new ones. -/
theorem St.changed {z : Base} {w w' : World} {m : Mem} {b : Nat} {o o' : Obj} {G : List Grp} (h : St z w m ([(b, o)] :: G))
    (hos : w'.os = w.os) (htape : w'.tape = w.tape) (hout : w'.output = w.output) (hb : w'.heap[b]? = some o') (hold : ∀ k u, k ≠ b → w.heap[k]? = some u → w'.heap[k]? = some u) :
    St z w' m ([(b, o')] :: G) := by
  have hnd := h.nd
  simp only [List.flatten_cons, List.singleton_append, List.map_cons, List.nodup_cons] at hnd
  have hmb : m b = none := (h.own b o (by simp)).2
  refine ⟨hos.trans h.os, htape.trans h.tape, hout.trans h.output, fun k u hk => ?_, fun k u hk => ?_, ?_⟩
  · refine hold k u (fun he => ?_) (h.sub k u hk)
    subst he; rw [hmb] at hk; cases hk
  · simp only [List.flatten_cons, List.singleton_append, List.mem_cons] at hk
    rcases hk with hk | hk
    · simp only [Prod.mk.injEq] at hk
      obtain ⟨rfl, rfl⟩ := hk
      exact ⟨hb, hmb⟩
    · have h2 := h.own k u (by simp only [List.flatten_cons, List.singleton_append, List.mem_cons]; exact .inr hk)
      refine ⟨hold k u (fun he => ?_) h2.1, h2.2⟩
      subst he
      exact hnd.1 (List.mem_map.2 ⟨_, hk, rfl⟩)
  · simp only [List.flatten_cons, List.singleton_append, List.map_cons, List.nodup_cons]
    exact hnd

theorem setCell_at (w : World) (b off : Nat) (v : Value) (c : Array Value) (t : TypeId) (fr : Nat × Nat) (h : w.heap[b]? = some (.cells c t fr)) :
    (w.setCell ⟨b, off, none⟩ v).heap[b]? = some (.cells (c.setIfInBounds off v) t fr) := by
  obtain ⟨hl, he⟩ := Array.getElem?_eq_some_iff.1 h
  simp [World.setCell, hl, Array.getElem_modify_self, he]
theorem setCell_else (w : World) (a : Addr) (v : Value) (k : Nat) (h : k ≠ a.block) : (w.setCell a v).heap[k]? = w.heap[k]? := by
  simp [World.setCell, Array.getElem?_modify, Ne.symm h]
theorem St.setCell {z : Base} {w : World} {m : Mem} {b off : Nat} {c : Array Value} {t : TypeId} {fr : Nat × Nat} {G : List Grp} (h : St z w m ([(b, .cells c t fr)] :: G)) (v : Value) :
    St z (w.setCell ⟨b, off, none⟩ v) m ([(b, .cells (c.setIfInBounds off v) t fr)] :: G) :=
  h.changed rfl rfl rfl (setCell_at w b off v c t fr (h.own _ _ (by simp)).1) (fun k u hk hu => by rw [setCell_else w _ v k hk]; exact hu)
theorem St.setObj {z : Base} {w : World} {m : Mem} {b : Nat} {o : Obj} {G : List Grp} (h : St z w m ([(b, o)] :: G)) (o' : Obj) :
    St z { w with heap := w.heap.setIfInBounds b o' } m ([(b, o')] :: G) :=
  h.changed rfl rfl rfl (by simp [(h.own_lt (b := b) (o := o) (by simp))]) (fun k u hk hu => by simpa [Array.getElem?_setIfInBounds_ne (Ne.symm hk)] using hu)

/-! ### 3. To stay as it is; to lend -/

def Mem.add (m : Mem) (I : Grp) : Mem := fun b => match m b with
  | some o => some o
  | none => (I.find? (fun p => p.1 == b)).map (·.2)
theorem Mem.le_add (m : Mem) (I : Grp) : m.le (m.add I) := fun b o h => by simp [Mem.add, h]
theorem find_of_mem {I : Grp} (hnd : (I.map (·.1)).Nodup) {b : Nat} {o : Obj} (h : (b, o) ∈ I) : I.find? (fun p => p.1 == b) = some (b, o) := by
  induction I with
  | nil => cases h
  | cons p r ih =>
    simp only [List.map_cons, List.nodup_cons] at hnd
    rcases List.mem_cons.1 h with h | h
    · subst h; simp
    · have hne : p.1 ≠ b := fun he => hnd.1 (List.mem_map.2 ⟨_, h, he.symm⟩)
      rw [List.find?_cons_of_neg (by simpa using hne)]
      exact ih hnd.2 h
theorem St.nodup1 {z : Base} {w : World} {m : Mem} {I : Grp} {G : List Grp} (h : St z w m (I :: G)) : (I.map (·.1)).Nodup := by
  have := h.nd
  simp only [List.flatten_cons, List.map_append] at this
  exact (List.nodup_append.1 this).1
theorem St.add_mem {z : Base} {w : World} {m : Mem} {I : Grp} {G : List Grp} (h : St z w m (I :: G)) {b : Nat} {o : Obj} (hb : (b, o) ∈ I) : m.add I b = some o := by
  have h1 := (h.own b o (by simp only [List.flatten_cons, List.mem_append]; exact .inl hb)).2
  simp [Mem.add, h1, find_of_mem h.nodup1 hb]
/-- What one owned stays as it is from now on. -/
theorem St.freeze {z : Base} {w : World} {m : Mem} {I : Grp} {G : List Grp} (h : St z w m (I :: G)) : St z w (m.add I) G := by
  refine ⟨h.os, h.tape, h.output, fun b o hb => ?_, fun b o hb => ?_, h.drop1.nd⟩
  · cases hm : m b with
    | some u => simp [Mem.add, hm] at hb; subst hb; exact h.sub b _ hm
    | none =>
      simp only [Mem.add, hm, Option.map_eq_some_iff] at hb
      obtain ⟨p, hp, rfl⟩ := hb
      have h1 := List.mem_of_find?_eq_some hp
      have h2 := List.find?_some hp
      simp at h2
      subst h2
      exact (h.own p.1 p.2 (by simp only [List.flatten_cons, List.mem_append]; exact .inl h1)).1
  · have h1 := h.own b o (by simp only [List.flatten_cons, List.mem_append]; exact .inr hb)
    refine ⟨h1.1, ?_⟩
    have hnd := h.nd
    simp only [List.flatten_cons, List.map_append] at hnd
    have hdis := (List.nodup_append.1 hnd).2.2
    have : I.find? (fun p => p.1 == b) = none := by
      rw [List.find?_eq_none]
      intro p hp he
      simp at he
      exact hdis p.1 (List.mem_map.2 ⟨p, hp, rfl⟩) b (List.mem_map.2 ⟨(b, o), hb, rfl⟩) he
    simp [Mem.add, h1.2, this]
/-- What was lent comes back, where nothing of it was handed on. -/
theorem St.thaw {z : Base} {w w' : World} {m m' : Mem} {I : Grp} {G : List Grp} (h0 : St z w m (I :: G)) (hm : (m.add I).le m') (h : St z w' m' G) : St z w' m (I :: G) := by
  refine ⟨h.os, h.tape, h.output, fun b o hb => h.sub b o (hm b o (m.le_add I b o hb)), fun b o hb => ?_, h0.nd⟩
  simp only [List.flatten_cons, List.mem_append] at hb
  rcases hb with hb | hb
  · exact ⟨h.sub b o (hm b o (h0.add_mem hb)), (h0.own b o (by simp only [List.flatten_cons, List.mem_append]; exact .inl hb)).2⟩
  · exact ⟨(h.own b o hb).1, (h0.own b o (by simp only [List.flatten_cons, List.mem_append]; exact .inr hb)).2⟩
/-- What a callee added to what stays may be forgotten. -/
theorem St.less {z : Base} {w : World} {m m' : Mem} {G : List Grp} (hm : m.le m') (h : St z w m' G) : St z w m G :=
  ⟨h.os, h.tape, h.output, fun b o hb => h.sub b o (hm b o hb), fun b o hb => ⟨(h.own b o hb).1, by
    cases hq : m b with
    | none => rfl
    | some u => have := hm b u hq; rw [(h.own b o hb).2] at this; cases this⟩, h.nd⟩
theorem St.get {z : Base} {w : World} {m : Mem} {I : Grp} {G : List Grp} (h : St z w m (I :: G)) {b : Nat} {o : Obj} (hb : (b, o) ∈ I) : w.heap[b]? = some o :=
  (h.own b o (by simp only [List.flatten_cons, List.mem_append]; exact .inl hb)).1
/-- At a call's begin: all that is there stays as it is. -/
theorem St.begin (w : World) : St ⟨w.os, w.tape, w.output⟩ w (fun b => w.heap[b]?) [] :=
  ⟨rfl, rfl, rfl, fun _ _ h => h, fun _ _ h => by simp at h, by simp⟩
theorem St.below {w w' : World} {m' : Mem} {G : List Grp} (hm : Mem.le (fun b => w.heap[b]?) m') (h : St ⟨w.os, w.tape, w.output⟩ w' m' G) : RowKit.Below w.heap.size w w' := by
  refine ⟨h.os, h.tape, h.output, ?_, fun k hk => ?_⟩
  · cases hz : w.heap.size with
    | zero => omega
    | succ n =>
      have h1 : w.heap[n]? = some (w.heap[n]'(by omega)) := by simp [hz]
      have := heap_lt (h.sub n _ (hm n _ h1))
      omega
  · have h1 : w.heap[k]? = some (w.heap[k]'hk) := by simp [hk]
    rw [h1]
    exact h.sub k _ (hm k _ h1)

/-! ### 4. Kinds: how cells tell plain data -/

structure Kd (α : Type) where
  size : Nat
  agg : Bool
  rep : Mem → (Nat → Value) → α → Prop
  pos : 0 < size
  one : ∀ {m : Mem} {c : Nat → Value} {x : α}, rep m c x → ∀ j, j < size → (c j).oneCell' = true
  mono : ∀ {m m' : Mem} {c : Nat → Value} {x : α}, m.le m' → rep m c x → rep m' c x
  ext : ∀ {m : Mem} {c c' : Nat → Value} {x : α}, (∀ j, j < size → c j = c' j) → rep m c x → rep m c' x

def InR : IntKind → Int → Prop
  | .i64, x => -9223372036854775808 ≤ x ∧ x ≤ 9223372036854775807
  | .i32, x => -2147483648 ≤ x ∧ x ≤ 2147483647
  | .i16, x => -32768 ≤ x ∧ x ≤ 32767
  | .i8, x => -128 ≤ x ∧ x ≤ 127
  | .u64, x => 0 ≤ x ∧ x ≤ 18446744073709551615
  | .u32, x => 0 ≤ x ∧ x ≤ 4294967295
  | .u16, x => 0 ≤ x ∧ x ≤ 65535
  | .u8, x => 0 ≤ x ∧ x ≤ 255
/-- No string and no row is longer than this many bytes. -/
def reach : Nat := 140737488355328

theorem one0 {c : Nat → Value} {v : Value} (h : c 0 = v) (hv : v.oneCell' = true) : ∀ j, j < 1 → (c j).oneCell' = true := fun j hj => by
  have : j = 0 := by omega
  subst this; rw [h]; exact hv
def kInt (k : IntKind) : Kd Int := ⟨1, false, fun _ c x => c 0 = .int k x ∧ InR k x, by decide, fun h => one0 h.1 rfl, fun _ h => h, fun hc h => ⟨(hc 0 (by decide)).symm.trans h.1, h.2⟩⟩
def kBool : Kd Bool := ⟨1, false, fun _ c x => c 0 = .bool x, by decide, fun h => one0 h rfl, fun _ h => h, fun hc h => (hc 0 (by decide)).symm.trans h⟩
def kStr : Kd ByteArray := ⟨1, false, fun _ c x => c 0 = .string x ∧ x.size ≤ reach, by decide, fun h => one0 h.1 rfl, fun _ h => h, fun hc h => ⟨(hc 0 (by decide)).symm.trans h.1, h.2⟩⟩

/-- Cells in memory that stays as it is. -/
def At (m : Mem) (ad : Addr) (s : Nat) (c : Nat → Value) : Prop :=
  ad.spot = none ∧ ∃ arr E fr, m ad.block = some (.cells arr E fr) ∧ ∀ j, j < s → arr[ad.off + j]? = some (c j)
theorem At.mono {m m' : Mem} {ad : Addr} {s : Nat} {c : Nat → Value} (hm : m.le m') (h : At m ad s c) : At m' ad s c := by
  obtain ⟨h1, arr, E, fr, h2, h3⟩ := h
  exact ⟨h1, arr, E, fr, hm _ _ h2, h3⟩
theorem At.cell {z : Base} {w : World} {m : Mem} {G : List Grp} {ad : Addr} {s : Nat} {c : Nat → Value} (h : At m ad s c) (hst : St z w m G) {j : Nat} (hj : j < s) :
    w.cell? ⟨ad.block, ad.off + j, none⟩ = some (c j) := by
  obtain ⟨h1, arr, E, fr, h2, h3⟩ := h
  have := hst.sub _ _ h2
  simp [World.cell?, this, h3 j hj]
theorem At.shift {m : Mem} {ad : Addr} {s : Nat} {c : Nat → Value} (h : At m ad s c) (o s' : Nat) (hs : o + s' ≤ s) : At m ⟨ad.block, ad.off + o, none⟩ s' (fun j => c (o + j)) := by
  obtain ⟨h1, arr, E, fr, h2, h3⟩ := h
  exact ⟨rfl, arr, E, fr, h2, fun j hj => by have := h3 (o + j) (by omega); rw [← Nat.add_assoc] at this; exact this⟩

/-- A row of elements behind an address. -/
def Row {α : Type} (K : Kd α) (m : Mem) (a : Option Addr) (cap : Nat) (xs : List α) : Prop :=
  xs.length ≤ cap ∧ ∀ i (h : i < xs.length), ∃ ad, a = some ad ∧ ∃ c, At m ⟨ad.block, ad.off + i * K.size, none⟩ K.size c ∧ ad.spot = none ∧ K.rep m c xs[i]
theorem Row.mono {α : Type} {K : Kd α} {m m' : Mem} {a : Option Addr} {cap : Nat} {xs : List α} (hm : m.le m') (h : Row K m a cap xs) : Row K m' a cap xs :=
  ⟨h.1, fun i hi => by
    obtain ⟨ad, h1, c, h2, h3, h4⟩ := h.2 i hi
    exact ⟨ad, h1, c, h2.mono hm, h3, K.mono hm h4⟩⟩
/-- A slice's row, and that it is no longer than the memory bears. -/
def Sl {α : Type} (K : Kd α) (bytes : Nat) (m : Mem) (a : Option Addr) (cap : Nat) (xs : List α) : Prop := Row K m a cap xs ∧ xs.length * bytes ≤ reach ∧ xs.length ≤ reach
theorem Sl.mono {α : Type} {K : Kd α} {bytes : Nat} {m m' : Mem} {a : Option Addr} {cap : Nat} {xs : List α} (h : Sl K bytes m a cap xs) (hm : m.le m') : Sl K bytes m' a cap xs := ⟨h.1.mono hm, h.2⟩
/-- A slice; bytes: what an element takes. -/
def kSl {α : Type} (K : Kd α) (bytes : Nat) : Kd (List α) :=
  ⟨1, false, fun m c xs => ∃ a cap, c 0 = .slice a xs.length cap ∧ Sl K bytes m a cap xs, by decide, fun h => by obtain ⟨a, cap, h1, h2⟩ := h; exact one0 h1 rfl,
    fun hm h => by obtain ⟨a, cap, h1, h2⟩ := h; exact ⟨a, cap, h1, h2.mono hm⟩,
    fun hc h => by obtain ⟨a, cap, h1, h2⟩ := h; exact ⟨a, cap, (hc 0 (by decide)).symm.trans h1, h2⟩⟩

theorem Row.nil {α : Type} {K : Kd α} {m : Mem} {a : Option Addr} {cap : Nat} : Row K m a cap [] := ⟨by simp, fun i h => by simp at h⟩
theorem Row.at {α : Type} {K : Kd α} {m : Mem} {a : Option Addr} {cap : Nat} {xs : List α} (h : Row K m a cap xs) {i : Nat} (hi : i < xs.length) :
    ∃ ad c, a = some ad ∧ At m (ad.add (i * K.size)) K.size c ∧ K.rep m c xs[i] := by
  obtain ⟨ad, h1, c, h2, h3, h4⟩ := h.2 i hi
  refine ⟨ad, c, h1, ?_, h4⟩
  unfold Addr.add
  split
  · rename_i h0
    rw [h0, Nat.add_zero] at h2
    obtain ⟨_, h5⟩ := h2
    exact ⟨h3, h5⟩
  · exact h2

end Go.Proofs.Ytcnlbnccghjeaaa.W
