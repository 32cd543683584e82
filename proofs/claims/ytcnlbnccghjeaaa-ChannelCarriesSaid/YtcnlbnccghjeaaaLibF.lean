/- Rows of the call's own: append, make, elements written. Conditions: none. -/
import Derived.Test.YtcnlbnccghjeaaaLibE
import Derived.Laws.AppendOwn
import Derived.Laws.MakeOwn
import Derived.Laws.OwnMore
set_option linter.unusedVariables false
set_option linter.unusedSimpArgs false
namespace Go.Proofs.Ytcnlbnccghjeaaa.W
open Go

/-- A list of cells tells a list of elements. -/
def RepL {α : Type} (K : Kd α) (m : Mem) (cs : List Value) (xs : List α) : Prop :=
  cs.length = xs.length * K.size ∧ ∀ i (h : i < xs.length), K.rep m (fun j => cs.getD (i * K.size + j) undef) xs[i]
theorem RepL.mono {α : Type} {K : Kd α} {m m' : Mem} {cs : List Value} {xs : List α} (hm : m.le m') (h : RepL K m cs xs) : RepL K m' cs xs := ⟨h.1, fun i hi => K.mono hm (h.2 i hi)⟩
theorem RepL.nil {α : Type} {K : Kd α} {m : Mem} : RepL K m [] [] := ⟨by simp, fun i h => by simp at h⟩
theorem mul_slot {i n s j : Nat} (hi : i < n) (hj : j < s) : i * s + j < n * s := by
  have : (i + 1) * s ≤ n * s := Nat.mul_le_mul_right s hi
  rw [Nat.add_mul] at this
  omega
theorem RepL.append {α : Type} {K : Kd α} {m : Mem} {cs ds : List Value} {xs ys : List α} (h : RepL K m cs xs) (h' : RepL K m ds ys) : RepL K m (cs ++ ds) (xs ++ ys) := by
  refine ⟨by simp [h.1, h'.1, Nat.add_mul], fun i hi => ?_⟩
  by_cases hlt : i < xs.length
  · rw [List.getElem_append_left hlt]
    refine K.ext (fun j hj => ?_) (h.2 i hlt)
    have := mul_slot hlt hj
    rw [List.getD_eq_getElem?_getD, List.getD_eq_getElem?_getD, List.getElem?_append_left (by rw [h.1]; exact this)]
  · have hge : xs.length ≤ i := Nat.le_of_not_lt hlt
    rw [List.getElem_append_right hge]
    have hi' : i - xs.length < ys.length := by simp at hi; omega
    refine K.ext (fun j hj => ?_) (h'.2 (i - xs.length) hi')
    have h1 : i * K.size = xs.length * K.size + (i - xs.length) * K.size := by rw [← Nat.add_mul]; congr 1; omega
    rw [List.getD_eq_getElem?_getD, List.getD_eq_getElem?_getD, List.getElem?_append_right (by rw [h.1, h1]; omega)]
    rw [h.1, h1]
    rw [show xs.length * K.size + (i - xs.length) * K.size + j - xs.length * K.size = (i - xs.length) * K.size + j from by omega]
theorem RepL.one {α : Type} {K : Kd α} {m : Mem} {l : List Value} {x : α} (hl : l.length = K.size) (h : K.rep m (cells l) x) : RepL K m l [x] := by
  refine ⟨by simp [hl], fun i hi => ?_⟩
  have : i = 0 := by simp at hi; omega
  subst this
  refine K.ext (fun j hj => ?_) h
  rw [Nat.zero_mul, Nat.zero_add, List.getD_eq_getElem?_getD, cells_get l j (by omega)]
  rfl

/-- A slice whose row the call owns: nil, or at the head of a block of its own (the group I). -/
def OwnSl {α : Type} (K : Kd α) (bytes : Nat) (E : TypeId) (m : Mem) (a : Option Addr) (cap : Nat) (I : Grp) (xs : List α) : Prop :=
  xs.length * bytes ≤ reach ∧ xs.length ≤ reach ∧
  ((a = none ∧ cap = 0 ∧ xs = [] ∧ I = []) ∨
   ∃ b arr, a = some ⟨b, 0, none⟩ ∧ I = [(b, .cells arr E (0, 0))] ∧ xs.length ≤ cap ∧ cap ≤ maxLen ∧ arr.size = cap * K.size ∧ RepL K m (arr.toList.take (xs.length * K.size)) xs)
theorem OwnSl.mono {α : Type} {K : Kd α} {bytes : Nat} {E : TypeId} {m m' : Mem} {a : Option Addr} {cap : Nat} {I : Grp} {xs : List α} (h : OwnSl K bytes E m a cap I xs) (hm : m.le m') : OwnSl K bytes E m' a cap I xs := by
  obtain ⟨h1, h2, h3⟩ := h
  refine ⟨h1, h2, ?_⟩
  rcases h3 with h3 | ⟨b, arr, h4, h5, h6, h7, h8, h9⟩
  · exact .inl h3
  · exact .inr ⟨b, arr, h4, h5, h6, h7, h8, h9.mono hm⟩
theorem OwnSl.nil {α : Type} {K : Kd α} {bytes : Nat} {E : TypeId} {m : Mem} : OwnSl K bytes E m none 0 [] ([] : List α) := ⟨by simp, by simp, .inl ⟨rfl, rfl, rfl, rfl⟩⟩
theorem OwnSl.len {α : Type} {K : Kd α} {bytes : Nat} {E : TypeId} {m : Mem} {a : Option Addr} {cap : Nat} {I : Grp} {xs : List α} (h : OwnSl K bytes E m a cap I xs) : xs.length ≤ reach := h.2.1
/-- Lent, or given up, it is a slice like any other. -/
theorem OwnSl.lend {α : Type} {K : Kd α} {bytes : Nat} {E : TypeId} {z : Base} {w : World} {G : List Grp} {m : Mem} {a : Option Addr} {cap : Nat} {I : Grp} {xs : List α} (h : OwnSl K bytes E m a cap I xs) (hst : St z w m (I :: G)) :
    Sl K bytes (m.add I) a cap xs := by
  obtain ⟨h1, h2, h3⟩ := h
  refine ⟨?_, h1, h2⟩
  rcases h3 with ⟨_, _, rfl, _⟩ | ⟨b, arr, rfl, rfl, h6, h7, h8, h9⟩
  · exact Row.nil
  · refine ⟨h6, fun i hi => ⟨⟨b, 0, none⟩, rfl, fun j => (arr.toList.take (xs.length * K.size)).getD (i * K.size + j) undef, ⟨rfl, arr, E, (0, 0), hst.add_mem (by simp), fun j hj => ?_⟩, rfl, K.mono (Mem.le_add m _) (h9.2 i hi)⟩⟩
    have hlt := mul_slot hi hj
    have hle : xs.length * K.size ≤ arr.size := by rw [h8]; exact Nat.mul_le_mul_right _ h6
    have hlt2 : i * K.size + j < arr.size := by omega
    simp [List.getD_eq_getElem?_getD, List.getElem?_take, hlt, hlt2]

/-! ### 1. append -/

def app {α : Type} (bytes : Nat) (xs ys : List α) : Option (List α) := if (xs.length + ys.length) * bytes ≤ reach ∧ xs.length + ys.length ≤ reach then some (xs ++ ys) else none
theorem app_some {α : Type} {bytes : Nat} {xs ys r : List α} (h : app bytes xs ys = some r) : r = xs ++ ys ∧ (xs.length + ys.length) * bytes ≤ reach ∧ xs.length + ys.length ≤ reach := by
  unfold app at h
  split at h
  · rename_i hc; injection h with h; exact ⟨h.symm, hc⟩
  · cases h
/-- An append: the two slices, the element's type, its cells, its bytes. -/
def apq (P : Program) (o : Oper) (ρ : Operand → Value) : Option (Value × Value × TypeId × Nat × Nat) :=
  match o.op with
  | .call c => match c.callee, c.args.toList, c.argTypes.toList with
    | .builtin .append, [s, x], [t, t'] => match P.underlying t with
      | some (.slice E) => match P.info? E with
        | some i => match i.zero with
          | some zv => bif Nat.beq t t' && Nat.beq zv.cells.size i.size then some (ρ s, ρ x, E, i.size, i.bytes) else none
          | none => none
        | none => none
      | _ => none
    | _, _, _ => none
  | _ => none
theorem apq_told {P : Program} {o : Oper} {ρ : Operand → Value} {vs vx : Value} {E : TypeId} {s bytes : Nat} (h : apq P o ρ = some (vs, vx, E, s, bytes)) :
    ∃ t i zv, P.underlying t = some (.slice E) ∧ P.info? E = some i ∧ i.zero = some zv ∧ zv.cells.size = i.size ∧ i.size = s ∧ i.bytes = bytes ∧
      ∀ w v w', (Builtin.append_ #[t, t] o.type #[vs, vx]).run P w = .ok v w' → (execOp ρ o).run P w = .ok (.value v) w' := by
  unfold apq at h
  split at h
  · rename_i c ho
    split at h
    · rename_i sv x t t' hc ha hat
      split at h
      · rename_i E' hT
        split at h
        · rename_i i hi
          split at h
          · rename_i zv hz
            by_cases hb : (Nat.beq t t' && Nat.beq zv.cells.size i.size) = true
            · rw [hb] at h
              simp only [cond_true, Option.some.injEq, Prod.mk.injEq] at h
              obtain ⟨rfl, rfl, rfl, rfl, rfl⟩ := h
              simp only [Bool.and_eq_true] at hb
              have h1 := beq_iff.1 hb.1
              have h2 := beq_iff.1 hb.2
              subst h1
              refine ⟨t, i, zv, hT, hi, hz, h2, rfl, rfl, fun w v w' hr => ?_⟩
              have ha' : c.args = #[sv, x] := by rw [← ha]
              have hat' : c.argTypes = #[t, t] := by rw [← hat]
              unfold execOp
              simp only [ho, resolve, hc, ha', hat', invoke, builtin, Sem.run_bind, Sem.run_pure, Result.andThen_ok, List.map_toArray, List.map_cons, List.map_nil, hr]
            · rw [Bool.not_eq_true] at hb
              rw [hb] at h
              cases h
          · cases h
        · cases h
      · cases h
    · cases h
  · cases h

theorem own_append {P : Program} {o : Oper} {ρ : Operand → Value} {w : World} {m : Mem} {z : Base} {G : List Grp} {α : Type} {K : Kd α} {bytes : Nat} {E : TypeId} {a : Option Addr} {cap : Nat} {I : Grp} {xs ys r : List α} {ad : Addr} {c : Nat} {news : List Value}
    (hq : apq P o ρ = some (.slice a xs.length cap, .slice (some ad) ys.length c, E, K.size, bytes)) (hst : St z w m (I :: G)) (ho : OwnSl K bytes E m a cap I xs)
    (hrep : RepL K m news ys) (hn : ∀ j u, news[j]? = some u → w.cell? (ad.add j) = some u) (h1 : allOne news = true) (hne : 0 < ys.length) (hr : app bytes xs ys = some r) :
    ∃ a' cap' I' w', (execOp ρ o).run P w = .ok (.value (.slice a' r.length cap')) w' ∧ St z w' m (I' :: G) ∧ OwnSl K bytes E m a' cap' I' r := by
  obtain ⟨rfl, hb, hb1⟩ := app_some hr
  obtain ⟨t, i, zv, hT, hi, hz, hzs, hsz, hby, hrun⟩ := apq_told hq
  obtain ⟨_, _, ho⟩ := ho
  have hlen : (xs ++ ys).length = xs.length + ys.length := by simp
  have hnl : news.length = ys.length * i.size := by rw [hsz]; exact hrep.1
  have hone : ∀ u ∈ news, u.oneCell' = true := fun u hu => List.all_eq_true.1 h1 u hu
  have hbytes : (xs.length + ys.length) * i.bytes ≤ 140737488355328 := by rw [hby]; exact hb
  have hsmall : xs.length + ys.length ≤ 140737488355328 := hb1
  have hcapm : ∀ old, grownCap w (xs.length + ys.length) old E ≤ maxLen := fun old => grownCap_le_maxLen w _ old E (by unfold maxLen; omega)
  have hcapge : ∀ old, xs.length + ys.length ≤ grownCap w (xs.length + ys.length) old E := fun old => grownCap_ge w _ old E
  have grown : ∀ (olds : List Value) (old : Nat), RepL K m olds xs → St z w m G →
      ∃ I', St z (w.drew.alloc (.cells (olds.toArray ++ news.toArray ++ Builtin.zeroCells zv.cells (grownCap w (xs.length + ys.length) old E - (xs.length + ys.length))) E)) m (I' :: G) ∧
        OwnSl K bytes E m (some ⟨w.heap.size, 0, none⟩) (grownCap w (xs.length + ys.length) old E) I' (xs ++ ys) := by
    intro olds old holds hst2
    refine ⟨[(w.heap.size, .cells (olds.toArray ++ news.toArray ++ Builtin.zeroCells zv.cells (grownCap w (xs.length + ys.length) old E - (xs.length + ys.length))) E (0, 0))], ?_, ?_⟩
    · have h2 := (hst2.drawn (w.drawn + 1)).alloc (.cells (olds.toArray ++ news.toArray ++ Builtin.zeroCells zv.cells (grownCap w (xs.length + ys.length) old E - (xs.length + ys.length))) E)
      exact h2
    · refine ⟨by rw [hlen]; exact hb, by rw [hlen]; exact hb1, .inr ⟨_, _, rfl, rfl, by rw [hlen]; exact hcapge old, hcapm old, ?_, ?_⟩⟩
      · simp only [Array.size_append, List.size_toArray, size_zeroCells, holds.1, hnl, hzs, hsz]
        rw [← Nat.add_mul, ← Nat.add_mul]
        congr 1
        have := hcapge old
        omega
      · have : (olds.toArray ++ news.toArray ++ Builtin.zeroCells zv.cells (grownCap w (xs.length + ys.length) old E - (xs.length + ys.length))).toList.take ((xs ++ ys).length * K.size) = olds ++ news := by
          simp only [Array.toList_append, List.append_assoc]
          have hol := holds.1
          rw [← List.append_assoc, show (xs ++ ys).length * K.size = (olds ++ news).length from by simp only [List.length_append, hol, hnl, hsz, Nat.add_mul]]
          exact List.take_left
        rw [this]
        exact holds.append hrep
  rcases ho with ⟨rfl, rfl, rfl, rfl⟩ | ⟨b, arr, rfl, rfl, hlc, hcm, has, holds⟩
  · have hr2 := run_append_nil (P := P) w t o.type E i zv hT hi hz ad ys.length c news hnl hn hne (by omega) (by simp at hbytes; omega)
    obtain ⟨I', h3, h4⟩ := grown [] 0 RepL.nil hst.drop1
    refine ⟨_, _, I', _, hrun _ _ _ ?_, h3, h4⟩
    simp only [List.length_nil, Nat.zero_add, List.nil_append, Array.empty_append] at hr2 ⊢
    exact hr2
  · have hg := hst.get (b := b) (o := .cells arr E (0, 0)) (by simp)
    by_cases hroom : xs.length + ys.length ≤ cap
    · have hfit : xs.length * i.size + news.length ≤ arr.size := by rw [hnl, has, ← Nat.add_mul, hsz]; exact Nat.mul_le_mul_right _ hroom
      have hr2 := run_append_room (P := P) w t o.type E i hT hi b xs.length cap arr hg ad ys.length c news hnl hn hone hroom hfit
      refine ⟨_, _, [(b, .cells (arr.toList.take (xs.length * i.size) ++ news ++ arr.toList.drop (xs.length * i.size + news.length)).toArray E (0, 0))], _, hrun _ _ _ (by rw [hlen]; exact hr2), ?_, ?_⟩
      · exact hst.changed rfl rfl rfl (setRow_heap w b arr _ E _ hg) (fun k u hk hu => by rw [setRow_other w b k _ hk]; exact hu)
      · refine ⟨by rw [hlen]; exact hb, by rw [hlen]; exact hb1, .inr ⟨b, _, rfl, rfl, by rw [hlen]; exact hroom, hcm, ?_, ?_⟩⟩
        · simp only [List.size_toArray, List.length_append, List.length_take, List.length_drop, Array.length_toList]
          omega
        · have hl1 : (arr.toList.take (xs.length * i.size)).length = xs.length * i.size := by
            have hal : arr.toList.length = arr.size := Array.length_toList
            rw [List.length_take, hal, has, ← hsz]
            exact Nat.min_eq_left (Nat.mul_le_mul_right _ hlc)
          have : (arr.toList.take (xs.length * i.size) ++ news ++ arr.toList.drop (xs.length * i.size + news.length)).toArray.toList.take ((xs ++ ys).length * K.size) = arr.toList.take (xs.length * i.size) ++ news := by
            rw [show (xs ++ ys).length * K.size = (arr.toList.take (xs.length * i.size) ++ news).length from by rw [List.length_append, List.length_append, hl1, hnl, hsz, Nat.add_mul]]
            exact List.take_left
          rw [this, hsz]
          exact holds.append hrep
    · have hcells : ∀ j u, (arr.toList.take (xs.length * K.size))[j]? = some u → w.cell? ((⟨b, 0, none⟩ : Addr).add j) = some u := by
        intro j u hj
        rw [add_some _ rfl, Nat.zero_add]
        have hlt := (List.getElem?_eq_some_iff.1 hj).1
        rw [List.length_take] at hlt
        rw [List.getElem?_take] at hj
        rw [if_pos (by omega)] at hj
        simp only [World.cell?, hg]
        simpa using hj
      have hr2 := run_append_grow (P := P) w t o.type E i zv hT hi hz ⟨b, 0, none⟩ xs.length cap (arr.toList.take (xs.length * K.size)) (by rw [hsz]; exact holds.1) hcells ad ys.length c news hnl hn (by omega) (by omega) (growslice_fits (by omega) hbytes)
      obtain ⟨I', h3, h4⟩ := grown (arr.toList.take (xs.length * K.size)) cap holds hst.drop1
      exact ⟨_, _, I', _, hrun _ _ _ (by rw [hlen]; exact hr2), h3, h4⟩
end Go.Proofs.Ytcnlbnccghjeaaa.W
