/- Rows of the call's own, continued: make, literal rows, elements read and written; slices cut; strings. Conditions: none. -/
import Derived.Test.YtcnlbnccghjeaaaLibF
set_option linter.unusedVariables false
set_option linter.unusedSimpArgs false
namespace Go.Proofs.Ytcnlbnccghjeaaa.W
open Go

/-! ### 1. make, literal rows -/

def mk {α : Type} (bytes : Nat) (n : Int) (x : α) : Option (List α) := if 0 ≤ n ∧ n.toNat * bytes ≤ reach ∧ n.toNat ≤ reach then some (List.replicate n.toNat x) else none
theorem mk_some {α : Type} {bytes : Nat} {n : Int} {x : α} {r : List α} (h : mk bytes n x = some r) : r = List.replicate n.toNat x ∧ 0 ≤ n ∧ n.toNat * bytes ≤ reach ∧ n.toNat ≤ reach := by
  unfold mk at h
  split at h
  · rename_i hc; injection h with h; exact ⟨h.symm, hc⟩
  · cases h
def mkq (P : Program) (o : Oper) (ρ : Operand → Value) : Option (Int × Int × TypeId × Nat × Nat × List Value) :=
  match o.op with
  | .makeSlice t l c => match ρ l, ρ c, P.underlying t with
    | .int _ x, .int _ y, some (.slice E) => match P.info? E with
      | some i => match i.zero with
        | some zv => bif Nat.beq zv.cells.size i.size then some (x, y, E, i.size, i.bytes, zv.cells.toList) else none
        | none => none
      | none => none
    | _, _, _ => none
  | _ => none
theorem own_make {P : Program} {o : Oper} {ρ : Operand → Value} {w : World} {m : Mem} {z : Base} {G : List Grp} {α : Type} {K : Kd α} {bytes : Nat} {E : TypeId} {n : Int} {zl : List Value} {x : α} {r : List α}
    (hq : mkq P o ρ = some (n, n, E, K.size, bytes, zl)) (hst : St z w m G) (hx : K.rep m (cells zl) x) (hr : mk bytes n x = some r) :
    ∃ a' cap' I' w', (execOp ρ o).run P w = .ok (.value (.slice a' r.length cap')) w' ∧ St z w' m (I' :: G) ∧ OwnSl K bytes E m a' cap' I' r := by
  obtain ⟨rfl, h0, hb, hb1⟩ := mk_some hr
  unfold mkq at hq
  split at hq
  · rename_i t l c ho
    split at hq
    · rename_i kl xx kc yy E' hl hc hT
      split at hq
      · rename_i i hi
        split at hq
        · rename_i zv hz
          by_cases hbq : Nat.beq zv.cells.size i.size = true
          · rw [hbq] at hq
            simp only [cond_true, Option.some.injEq, Prod.mk.injEq] at hq
            obtain ⟨hxx, hyy, rfl, hsz, hby, rfl⟩ := hq
            subst hxx
            subst hyy
            have hzs := beq_iff.1 hbq
            have hbb : (i.bytes : Int) * yy ≤ 281474976710656 := by
              have h1 : ((yy.toNat * bytes : Nat) : Int) ≤ 140737488355328 := by unfold reach at hb; omega
              rw [Int.natCast_mul, Int.toNat_of_nonneg h0, ← hby] at h1
              rw [Int.mul_comm]
              omega
            have h63 : yy ≤ 9223372036854775807 := by unfold reach at hb1; omega
            have hrun := run_make (P := P) w t E' i zv hT hi hz kl kc yy yy h0 (Int.le_refl _) hbb h63
            refine ⟨some ⟨w.heap.size, 0, none⟩, yy.toNat, [(w.heap.size, .cells (madeCells zv.cells (yy.toNat * i.size)) E' (0, 0))], _, ?_, hst.alloc _, ?_⟩
            · unfold execOp
              simp [ho, hl, hc, hrun]
            · refine ⟨by simpa using hb, by simpa using hb1, .inr ⟨_, _, rfl, rfl, by simp, by unfold maxLen; unfold reach at hb1; omega, by rw [size_madeCells, hsz], ?_⟩⟩
              refine ⟨?_, fun i' hi' => ?_⟩
              · simp [size_madeCells, hsz]
              · simp only [List.getElem_replicate]
                refine K.ext (fun j hj => ?_) hx
                simp only [List.length_replicate] at hi'
                have hlt := mul_slot hi' hj
                have hz0 : K.size = zv.cells.size := by rw [← hsz]; exact hzs.symm
                have hmod : (i' * K.size + j) % zv.cells.size = j := by
                  rw [← hz0, Nat.add_comm, Nat.add_mul_mod_self_right, Nat.mod_eq_of_lt hj]
                have hjz : j < zv.cells.size := by rw [← hz0]; exact hj
                have h1 := cells_get zv.cells.toList j (by simpa using hjz)
                simp only [Array.getElem?_toList, List.length_replicate] at h1 ⊢
                rw [List.getD_eq_getElem?_getD, List.getElem?_take, if_pos hlt, Array.getElem?_toList]
                have h2 : i' * K.size + j < (madeCells zv.cells (yy.toNat * i.size)).size := by rw [size_madeCells, hsz]; exact hlt
                rw [Array.getElem?_eq_getElem h2]
                simp only [madeCells, Array.getElem_map, Array.getElem_range, hmod, Option.getD_some]
                rw [Array.getElem?_eq_getElem hjz] at h1
                injection h1 with h1
                rw [getElem!_pos zv.cells j hjz, h1]
          · rw [Bool.not_eq_true] at hbq
            rw [hbq] at hq
            cases hq
        · cases hq
      · cases hq
    · cases hq
  · cases hq
/-- A row that was made with all its elements. -/
theorem own_row {α : Type} {K : Kd α} {bytes : Nat} {E : TypeId} {m : Mem} {b n : Nat} {l : List Value} {xs : List α} (h : RepL K m l xs) (hn : xs.length = n) (h1 : n * bytes ≤ 140737488355328) (h2 : n ≤ 140737488355328) :
    OwnSl K bytes E m (some ⟨b, 0, none⟩) n [(b, .cells l.toArray E (0, 0))] xs := by
  subst hn
  refine ⟨h1, h2, .inr ⟨b, _, rfl, rfl, Nat.le_refl _, by unfold maxLen; omega, by simpa using h.1, ?_⟩⟩
  have : l.toArray.toList.take (xs.length * K.size) = l := by
    simp only [List.toList_toArray]
    rw [← h.1, List.take_length]
  rw [this]
  exact h
theorem row_cells {z : Base} {w : World} {m : Mem} (pre : List Grp) {b : Nat} {l : List Value} {t : TypeId} {fr : Nat × Nat} {post : List Grp} (h : St z w m (pre ++ [(b, .cells l.toArray t fr)] :: post)) :
    ∀ j u, l[j]? = some u → w.cell? ((⟨b, 0, none⟩ : Addr).add j) = some u := fun j u hj => by
  have hlt := (List.getElem?_eq_some_iff.1 hj).1
  rw [h.ocells pre j hlt, ← cells_get l j hlt]
  exact hj
theorem RepL.cons {α : Type} {K : Kd α} {m : Mem} {l ls : List Value} {x : α} {xs : List α} (hl : l.length = K.size) (h : K.rep m (cells l) x) (hs : RepL K m ls xs) : RepL K m (l ++ ls) (x :: xs) := (RepL.one hl h).append hs

/-- The cells of a slice that stays. -/
theorem Sl.cells {α : Type} {K : Kd α} {bytes : Nat} {m : Mem} {a : Option Addr} {cap : Nat} {xs : List α} (h : Sl K bytes m a cap xs) (hne : 0 < xs.length) :
    ∃ ad news, a = some ad ∧ RepL K m news xs ∧ allOne news = true ∧ ∀ {z : Base} {w : World} {G : List Grp}, St z w m G → ∀ j u, news[j]? = some u → w.cell? (ad.add j) = some u := by
  obtain ⟨⟨hlc, hrow⟩, _, _⟩ := h
  obtain ⟨ad, ha, c0, hat0, hsp, _⟩ := hrow 0 hne
  obtain ⟨_, arr, E, fr, hm, _⟩ := hat0
  simp only [Nat.zero_mul, Nat.add_zero] at hm
  have hcell : ∀ i (hi : i < xs.length), ∀ j, j < K.size → ∃ v, arr[ad.off + i * K.size + j]? = some v ∧ v.oneCell' = true := by
    intro i hi j hj
    obtain ⟨ad', ha', c, ⟨_, arr', E', fr', hm', hc'⟩, _, hrep⟩ := hrow i hi
    rw [ha] at ha'
    injection ha' with ha'
    subst ha'
    simp only at hm'
    rw [hm] at hm'
    injection hm' with hm'
    injection hm' with h1 h2 h3
    subst h1
    exact ⟨_, hc' j hj, K.one hrep j hj⟩
  have hsize : ad.off + xs.length * K.size ≤ arr.size := by
    have hp := K.pos
    obtain ⟨v, hv, _⟩ := hcell (xs.length - 1) (by omega) (K.size - 1) (by omega)
    have hlt := (Array.getElem?_eq_some_iff.1 hv).1
    have : (xs.length - 1) * K.size + K.size = xs.length * K.size := by
      rw [show xs.length = (xs.length - 1) + 1 from by omega, Nat.add_mul]; simp
    omega
  have hal : arr.toList.length = arr.size := Array.length_toList
  refine ⟨ad, (arr.toList.drop ad.off).take (xs.length * K.size), ha, ⟨?_, fun i hi => ?_⟩, ?_, ?_⟩
  · rw [List.length_take, List.length_drop, hal]; omega
  · obtain ⟨ad', ha', c, ⟨_, arr', E', fr', hm', hc'⟩, _, hrep⟩ := hrow i hi
    rw [ha] at ha'
    injection ha' with ha'
    subst ha'
    simp only at hm'
    rw [hm] at hm'
    injection hm' with hm'
    injection hm' with h1 h2 h3
    subst h1
    refine K.ext (fun j hj => ?_) hrep
    have hlt := mul_slot hi hj
    rw [List.getD_eq_getElem?_getD, List.getElem?_take, if_pos hlt, List.getElem?_drop, Array.getElem?_toList, ← Nat.add_assoc, hc' j hj]
    rfl
  · unfold allOne
    rw [List.all_eq_true]
    intro v hv
    obtain ⟨t, ht, hvt⟩ := List.mem_iff_getElem.1 hv
    rw [List.length_take, List.length_drop, hal] at ht
    have hp := K.pos
    have hd := Nat.div_add_mod t K.size
    have hml := Nat.mod_lt t hp
    have hi : t / K.size < xs.length := by rw [Nat.div_lt_iff_lt_mul hp]; omega
    obtain ⟨u, hu, ho⟩ := hcell (t / K.size) hi (t % K.size) hml
    have hidx : ad.off + t / K.size * K.size + t % K.size = ad.off + t := by rw [Nat.mul_comm]; omega
    rw [hidx] at hu
    have hget : ((arr.toList.drop ad.off).take (xs.length * K.size))[t]? = some v := List.getElem?_eq_some_iff.2 ⟨by rw [List.length_take, List.length_drop, hal]; exact ht, hvt⟩
    rw [List.getElem?_take, if_pos (by omega), List.getElem?_drop, Array.getElem?_toList, hu] at hget
    injection hget with hget
    rw [← hget]; exact ho
  · intro z w G hst j u hj
    have hlt := (List.getElem?_eq_some_iff.1 hj).1
    rw [List.length_take, List.length_drop, hal] at hlt
    rw [List.getElem?_take, if_pos (by omega), List.getElem?_drop, Array.getElem?_toList] at hj
    rw [add_some ad hsp]
    simp only [World.cell?, hst.sub _ _ hm]
    simpa using hj

/-! ### 2. Elements of a row of the call's own -/

theorem cells_append_left : ∀ (l r : List Value) (j : Nat), j < l.length → cells (l ++ r) j = cells l j
  | [], _, _, h => by simp at h
  | v :: l, r, 0, _ => rfl
  | v :: l, r, j + 1, h => by simpa [cells] using cells_append_left l r j (by simpa using h)
theorem cells_append_right : ∀ (l r : List Value) (j : Nat), cells (l ++ r) (l.length + j) = cells r j
  | [], r, j => by simp
  | v :: l, r, j => by
    rw [show (v :: l).length + j = (l.length + j) + 1 from by simp; omega]
    simpa [cells] using cells_append_right l r j
theorem cells_getD (l : List Value) (j : Nat) : l.getD j undef = cells l j := by
  by_cases h : j < l.length
  · rw [List.getD_eq_getElem?_getD, cells_get l j h]; rfl
  · rw [List.getD_eq_getElem?_getD, List.getElem?_eq_none (by omega)]
    have : ∀ (l : List Value) (j : Nat), l.length ≤ j → cells l j = undef := by
      intro l
      induction l with
      | nil => intro j _; rfl
      | cons v r ih => intro j hj; cases j with
        | zero => simp at hj
        | succ j => exact ih j (by simpa using hj)
    rw [this l j (by omega)]; rfl
/-- Cells with some written anew. -/
def splice (l : List Value) (off : Nat) (vs : List Value) : List Value := l.take off ++ vs ++ l.drop (off + vs.length)
theorem splice_getD (l : List Value) (off : Nat) (vs : List Value) (h : off + vs.length ≤ l.length) (j : Nat) :
    (splice l off vs).getD j undef = if off ≤ j ∧ j < off + vs.length then vs.getD (j - off) undef else l.getD j undef := by
  unfold splice
  simp only [List.getD_eq_getElem?_getD]
  by_cases h1 : j < off
  · rw [if_neg (by omega), List.append_assoc, List.getElem?_append_left (by rw [List.length_take]; omega), List.getElem?_take, if_pos h1]
  · by_cases h2 : j < off + vs.length
    · rw [if_pos (by omega), List.getElem?_append_left (by rw [List.length_append, List.length_take]; omega), List.getElem?_append_right (by rw [List.length_take]; omega)]
      congr 2
      rw [List.length_take]; omega
    · rw [if_neg (by omega), List.getElem?_append_right (by rw [List.length_append, List.length_take]; omega), List.getElem?_drop]
      congr 2
      rw [List.length_append, List.length_take]; omega

theorem own_ix {α : Type} {K : Kd α} {bytes : Nat} {E : TypeId} {m : Mem} {a : Option Addr} {cap : Nat} {I : Grp} {xs : List α} (h : OwnSl K bytes E m a cap I xs) {i : Int} {x : α} (hx : ix xs i = some x) :
    ∃ ad c, (∀ {z : Base} {w : World} {G : List Grp}, St z w m (I :: G) → ∀ j, j < K.size → w.cell? (ad.add j) = some (c j)) ∧ K.rep m c x ∧
      (∀ {P : Program} {w : World} {o : Oper} {ρ : Operand → Value}, ixq P o ρ = some (a, xs.length, K.size, i) → (execOp ρ o).run P w = .ok (.value (.pointer (some ad))) w) ∧
      (∀ {P : Program} {o : Oper} {ρ : Operand → Value} {z : Base} {w : World} {G : List Grp} (off : Nat) (l vs : List Value) (y : α), stq P o ρ = some (ad.add off, vs) → allOne vs = true → off + vs.length ≤ K.size → l.length = K.size →
        (∀ j, j < K.size → c j = cells l j) → St z w m (I :: G) → K.rep m (cells (splice l off vs)) y →
        ∃ I' w', (execOp ρ o).run P w = .ok .skip w' ∧ St z w' m (I' :: G) ∧ OwnSl K bytes E m a cap I' (xs.set i.toNat y)) := by
  obtain ⟨h0, h1, hl, rfl⟩ := ix_some hx
  obtain ⟨hb1, hb2, h⟩ := h
  rcases h with ⟨_, _, rfl, _⟩ | ⟨b, arr, rfl, rfl, hlc, hcm, has, hrep⟩
  · simp at hl
  have hp := K.pos
  have hle : xs.length * K.size ≤ arr.size := by rw [has]; exact Nat.mul_le_mul_right _ hlc
  have hslot : ∀ j, j < K.size → i.toNat * K.size + j < arr.size := fun j hj => by have := mul_slot hl hj; omega
  have hal : arr.toList.length = arr.size := Array.length_toList
  have hc : ∀ j, j < K.size → (arr.toList.take (xs.length * K.size)).getD (i.toNat * K.size + j) undef = arr.toList.getD (i.toNat * K.size + j) undef := fun j hj => by
    have := mul_slot hl hj
    simp only [List.getD_eq_getElem?_getD]
    rw [List.getElem?_take, if_pos this]
  refine ⟨⟨b, i.toNat * K.size, none⟩, fun j => arr.toList.getD (i.toNat * K.size + j) undef, ?_, K.ext hc (hrep.2 i.toNat hl), ?_, ?_⟩
  · intro z w G hst j hj
    have hg := hst.get (b := b) (o := .cells arr E (0, 0)) (by simp)
    rw [add_some _ rfl]
    simp only [World.cell?, hg, List.getD_eq_getElem?_getD, Array.getElem?_toList]
    rw [Array.getElem?_eq_getElem (hslot j hj)]
    rfl
  · intro P w o ρ hq
    have := ixq_run (w := w) hq h0 h1
    rw [add_some _ rfl, Nat.zero_add] at this
    exact this
  · intro P o ρ z w G off l vs y hq h1v hfit hll hcl hst hy
    have hg := hst.get (b := b) (o := .cells arr E (0, 0)) (by simp)
    rw [add_some _ rfl] at hq
    have hsl := mul_slot hl (show off + vs.length - 1 < K.size by omega)
    have hfit2 : i.toNat * K.size + off + vs.length ≤ arr.toList.length := by
      have h5 := hslot (K.size - 1) (by omega)
      omega
    obtain ⟨w', hrun, hst'⟩ := stq_run (l := arr.toList) hq h1v hfit2 (by simpa using hst) (splice arr.toList (i.toNat * K.size + off) vs) rfl
    refine ⟨_, w', hrun, hst', ?_⟩
    refine ⟨by simpa using hb1, by simpa using hb2, .inr ⟨b, _, rfl, rfl, by simpa using hlc, hcm, ?_, ?_⟩⟩
    · unfold splice
      simp only [List.size_toArray, List.length_append, List.length_take, List.length_drop]
      omega
    · have hgd := splice_getD arr.toList (i.toNat * K.size + off) vs hfit2
      have hslen : (splice arr.toList (i.toNat * K.size + off) vs).length = arr.size := by
        unfold splice
        simp only [List.length_append, List.length_take, List.length_drop]
        omega
      refine ⟨by simp only [List.toList_toArray, List.length_take, List.length_set, hslen]; omega, fun i' hi' => ?_⟩
      simp only [List.length_set] at hi'
      simp only [List.toList_toArray]
      have htk : ∀ j, j < K.size → ((splice arr.toList (i.toNat * K.size + off) vs).take ((xs.set i.toNat y).length * K.size)).getD (i' * K.size + j) undef = (splice arr.toList (i.toNat * K.size + off) vs).getD (i' * K.size + j) undef := fun j hj => by
        have := mul_slot hi' hj
        simp only [List.getD_eq_getElem?_getD, List.length_set]
        rw [List.getElem?_take, if_pos this]
      by_cases hii : i' = i.toNat
      · subst hii
        rw [List.getElem_set_self]
        refine K.ext (fun j hj => ?_) hy
        rw [htk j hj, hgd, ← cells_getD, splice_getD l off vs (by omega)]
        by_cases hin : off ≤ j ∧ j < off + vs.length
        · rw [if_pos hin, if_pos (by omega)]
          congr 1
          omega
        · rw [if_neg hin, if_neg (by omega), cells_getD, ← hcl j hj]
      · rw [List.getElem_set_ne (fun he => hii he.symm)]
        refine K.ext (fun j hj => ?_) (hrep.2 i' hi')
        rw [htk j hj, hgd]
        have hm := mul_slot hi' hj
        have hne : ¬ (i.toNat * K.size + off ≤ i' * K.size + j ∧ i' * K.size + j < i.toNat * K.size + off + vs.length) := by
          rcases Nat.lt_or_gt_of_ne hii with hlt | hgt
          · have h7 : (i' + 1) * K.size ≤ i.toNat * K.size := Nat.mul_le_mul_right _ hlt
            rw [Nat.add_mul] at h7
            omega
          · have h7 : (i.toNat + 1) * K.size ≤ i' * K.size := Nat.mul_le_mul_right _ hgt
            rw [Nat.add_mul] at h7
            omega
        rw [if_neg hne]
        simp only [List.getD_eq_getElem?_getD]
        rw [List.getElem?_take, if_pos hm]

/-! ### 3. Slices cut; strings -/

def cut {α : Type} (xs : List α) (lo hi : Int) : Option (List α) := if 0 ≤ lo ∧ lo ≤ hi ∧ hi ≤ xs.length then some ((xs.take hi.toNat).drop lo.toNat) else none
theorem cut_some {α : Type} {xs r : List α} {lo hi : Int} (h : cut xs lo hi = some r) : r = (xs.take hi.toNat).drop lo.toNat ∧ 0 ≤ lo ∧ lo ≤ hi ∧ hi ≤ xs.length := by
  unfold cut at h
  split at h
  · rename_i hc; injection h with h; exact ⟨h.symm, hc⟩
  · cases h
def optI (ρ : Operand → Value) : Option Operand → Int → Option Int
  | none, d => some d
  | some x, _ => match ρ x with | .int _ n => some n | _ => none
/-- A slice of a slice: its address, length and capacity, an element's cells, the bounds. -/
def ctq (P : Program) (o : Oper) (ρ : Operand → Value) : Option (Option Addr × Nat × Nat × Nat × Int × Int) :=
  match o.op with
  | .slice t x lo hi none => match ρ x, P.underlying t with
    | .slice a len cap, some (.slice E) => match P.info? E, optI ρ lo 0, optI ρ hi len with
      | some i, some l, some h => some (a, len, cap, i.size, l, h)
      | _, _, _ => none
    | _, _ => none
  | _ => none
theorem ctq_run {P : Program} {o : Oper} {ρ : Operand → Value} {w : World} {a : Option Addr} {len cap sz : Nat} {l h : Int} (hq : ctq P o ρ = some (a, len, cap, sz, l, h)) (h0 : 0 ≤ l) (h1 : l ≤ h) (h2 : h ≤ cap) (hlc : len ≤ cap) :
    (execOp ρ o).run P w = .ok (.value (.slice (if cap = l.toNat then a else a.map (·.add (l.toNat * sz))) (h.toNat - l.toNat) (cap - l.toNat))) w := by
  unfold ctq at hq
  split at hq
  · rename_i t x lo hi ho
    split at hq
    · rename_i a' len' cap' E hx hT
      split at hq
      · rename_i i l' h' hi' hl hh
        simp only [Option.some.injEq, Prod.mk.injEq] at hq
        obtain ⟨rfl, rfl, rfl, rfl, rfl, rfl⟩ := hq
        have e1 : ∀ k (n : Int) (y : Nat) code, 0 ≤ n → n ≤ y → (Instr.sliceBound (.int k n) y code).run P w = .ok n.toNat w := by
          intro k n y code hn hy
          have : 0 ≤ n ∧ n ≤ (y : Int) := ⟨hn, hy⟩
          simp [Instr.sliceBound, asIntOf, this]
        unfold execOp
        simp only [ho, Instr.sliceAt, hx]
        cases lo with
        | none =>
          simp only [optI, Option.some.injEq] at hl
          subst hl
          cases hi with
          | none =>
            simp only [optI, Option.some.injEq] at hh
            subst hh
            simp [Instr.slice, run_underlying hT, Instr.sliceBounds, sizeOf, typeInfo, hi']
          | some y =>
            simp only [optI] at hh
            split at hh
            · rename_i k n hy
              simp only [Option.some.injEq] at hh
              subst hh
              have e2 := e1 k n cap' .sliceAcap (by omega) h2
              simp [Instr.slice, run_underlying hT, Instr.sliceBounds, sizeOf, typeInfo, hi', hy, e2]
            · cases hh
        | some y0 =>
          simp only [optI] at hl
          split at hl
          · rename_i k0 n0 hy0
            simp only [Option.some.injEq] at hl
            subst hl
            cases hi with
            | none =>
              simp only [optI, Option.some.injEq] at hh
              subst hh
              have e2 := e1 k0 n0 len' .sliceB h0 h1
              simp [Instr.slice, run_underlying hT, Instr.sliceBounds, sizeOf, typeInfo, hi', hy0, e2]
            | some y =>
              simp only [optI] at hh
              split at hh
              · rename_i k n hy
                simp only [Option.some.injEq] at hh
                subst hh
                have e2 := e1 k n cap' .sliceAcap (by omega) h2
                have e3 := e1 k0 n0 n.toNat .sliceB h0 (by omega)
                simp [Instr.slice, run_underlying hT, Instr.sliceBounds, sizeOf, typeInfo, hi', hy, hy0, e2, e3]
              · cases hh
          · cases hl
      · cases hq
    · cases hq
  · cases hq
theorem Sl.cut {α : Type} {K : Kd α} {bytes : Nat} {m : Mem} {a : Option Addr} {cap : Nat} {xs r : List α} {lo hi : Int} (h : Sl K bytes m a cap xs) (hr : W.cut xs lo hi = some r) :
    ∃ a' cap', Sl K bytes m a' cap' r ∧ ∀ {P : Program} {w : World} {o : Oper} {ρ : Operand → Value}, ctq P o ρ = some (a, xs.length, cap, K.size, lo, hi) → (execOp ρ o).run P w = .ok (.value (.slice a' r.length cap')) w := by
  obtain ⟨rfl, h0, h1, h2⟩ := cut_some hr
  obtain ⟨⟨hlc, hrow⟩, hb1, hb2⟩ := h
  have hlen : ((xs.take hi.toNat).drop lo.toNat).length = hi.toNat - lo.toNat := by
    rw [List.length_drop, List.length_take]; omega
  refine ⟨if cap = lo.toNat then a else a.map (·.add (lo.toNat * K.size)), cap - lo.toNat, ⟨⟨by rw [hlen]; omega, fun i hi' => ?_⟩, ?_, by rw [hlen]; omega⟩, fun {P w o ρ} hq => by rw [hlen]; exact ctq_run hq h0 h1 (by omega) hlc⟩
  · have hi2 : lo.toNat + i < xs.length := by rw [hlen] at hi'; omega
    obtain ⟨ad, ha, c, hat, hsp, hrep⟩ := hrow (lo.toNat + i) hi2
    rw [hlen] at hi'
    rw [if_neg (by omega), ha]
    refine ⟨ad.add (lo.toNat * K.size), rfl, c, ?_, ?_, ?_⟩
    · rw [add_some ad hsp]
      simp only
      rw [Nat.add_mul] at hat
      rw [Nat.add_assoc]
      exact hat
    · rw [add_some ad hsp]
    · simpa [List.getElem_drop, List.getElem_take] using hrep
  · rw [hlen]
    exact Nat.le_trans (Nat.mul_le_mul_right _ (by omega)) hb1

def scut (s : ByteArray) (lo hi : Int) : Option ByteArray := if 0 ≤ lo ∧ lo ≤ hi ∧ hi ≤ s.size then some (s.extract lo.toNat hi.toNat) else none
def scq (P : Program) (o : Oper) (ρ : Operand → Value) : Option (ByteArray × Int × Int) :=
  match o.op with
  | .slice t x lo hi none => match ρ x, P.underlying t with
    | .string s, some .string => match optI ρ lo 0, optI ρ hi s.size with
      | some l, some h => some (s, l, h)
      | _, _ => none
    | _, _ => none
  | _ => none
theorem scut_size {s r : ByteArray} {lo hi : Int} (h : scut s lo hi = some r) (hs : s.size ≤ reach) : r.size ≤ reach := by
  unfold scut at h
  split at h
  · injection h with h; subst h
    rw [ByteArray.size_extract]; omega
  · cases h
theorem scq_run {P : Program} {o : Oper} {ρ : Operand → Value} {w : World} {s r : ByteArray} {l h : Int} (hq : scq P o ρ = some (s, l, h)) (hr : scut s l h = some r) : (execOp ρ o).run P w = .ok (.value (.string r)) w := by
  unfold scut at hr
  split at hr
  case isFalse => cases hr
  rename_i hc
  obtain ⟨h0, h1, h2⟩ := hc
  injection hr with hr
  subst hr
  unfold scq at hq
  split at hq
  · rename_i t x lo hi ho
    split at hq
    · rename_i s' hx hT
      split at hq
      · rename_i l' h' hl hh
        simp only [Option.some.injEq, Prod.mk.injEq] at hq
        obtain ⟨rfl, rfl, rfl⟩ := hq
        have e1 : ∀ k (n : Int) (y : Nat) code, 0 ≤ n → n ≤ y → (Instr.sliceBound (.int k n) y code).run P w = .ok n.toNat w := by
          intro k n y code hn hy
          have : 0 ≤ n ∧ n ≤ (y : Int) := ⟨hn, hy⟩
          simp [Instr.sliceBound, asIntOf, this]
        unfold execOp
        simp only [ho, Instr.sliceAt, hx]
        cases lo with
        | none =>
          simp only [optI, Option.some.injEq] at hl
          subst hl
          cases hi with
          | none =>
            simp only [optI, Option.some.injEq] at hh
            subst hh
            simp [Instr.slice, run_underlying hT, Instr.sliceBounds]
          | some y =>
            simp only [optI] at hh
            split at hh
            · rename_i k n hy
              simp only [Option.some.injEq] at hh
              subst hh
              have e2 := e1 k n s'.size .sliceAlen (by omega) h2
              simp [Instr.slice, run_underlying hT, Instr.sliceBounds, hy, e2]
            · cases hh
        | some y0 =>
          simp only [optI] at hl
          split at hl
          · rename_i k0 n0 hy0
            simp only [Option.some.injEq] at hl
            subst hl
            cases hi with
            | none =>
              simp only [optI, Option.some.injEq] at hh
              subst hh
              have e2 := e1 k0 n0 s'.size .sliceB h0 h1
              simp [Instr.slice, run_underlying hT, Instr.sliceBounds, hy0, e2]
            | some y =>
              simp only [optI] at hh
              split at hh
              · rename_i k n hy
                simp only [Option.some.injEq] at hh
                subst hh
                have e2 := e1 k n s'.size .sliceAlen (by omega) h2
                have e3 := e1 k0 n0 n.toNat .sliceB h0 (by omega)
                simp [Instr.slice, run_underlying hT, Instr.sliceBounds, hy, hy0, e2, e3]
              · cases hh
          · cases hl
      · cases hq
    · cases hq
  · cases hq
/-- A byte of a string. -/
def sx (s : ByteArray) (i : Int) : Option Int := if 0 ≤ i then (s[i.toNat]?).map fun b => (b.toNat : Int) else none
def sxq (P : Program) (o : Oper) (ρ : Operand → Value) : Option (ByteArray × Int) :=
  match o.op with
  | .index t x i => match ρ x, ρ i, P.underlying t with
    | .string s, .int _ j, some .string => some (s, j)
    | _, _, _ => none
  | _ => none
theorem sxq_run {P : Program} {o : Oper} {ρ : Operand → Value} {w : World} {s : ByteArray} {j v : Int} (hq : sxq P o ρ = some (s, j)) (hr : sx s j = some v) : (execOp ρ o).run P w = .ok (.value (.int .u8 v)) w := by
  unfold sx at hr
  split at hr
  case isFalse => cases hr
  rename_i h0
  cases hb : s[j.toNat]? with
  | none => rw [hb] at hr; cases hr
  | some b =>
    rw [hb] at hr
    simp only [Option.map_some, Option.some.injEq] at hr
    subst hr
    unfold sxq at hq
    split at hq
    · rename_i t x i ho
      split at hq
      · rename_i s' k j' hx hi hT
        simp only [Option.some.injEq, Prod.mk.injEq] at hq
        obtain ⟨rfl, rfl⟩ := hq
        unfold execOp
        simp [ho, hx, hi, Instr.index, asIntOf, run_underlying hT, h0, hb]
      · cases hq
    · cases hq
theorem sx_in {s : ByteArray} {j v : Int} (h : sx s j = some v) : InR .u8 v := by
  unfold sx at h
  split at h
  · cases hb : s[j.toNat]? with
    | none => rw [hb] at h; cases h
    | some b =>
      rw [hb] at h
      simp only [Option.map_some, Option.some.injEq] at h
      subst h
      have := b.toNat_lt
      unfold InR
      omega
  · cases h
def scat (s t : ByteArray) : Option ByteArray := if s.size + t.size ≤ reach then some (s ++ t) else none
def saq (o : Oper) (ρ : Operand → Value) : Option (ByteArray × ByteArray) :=
  match o.op with
  | .binOp .add _ x y _ => match ρ x, ρ y with
    | .string s, .string t => some (s, t)
    | _, _ => none
  | _ => none
theorem scat_size {s t r : ByteArray} (h : scat s t = some r) : r.size ≤ reach := by
  unfold scat at h
  split at h
  · injection h with h; subst h; rw [ByteArray.size_append]; assumption
  · cases h
theorem saq_run {P : Program} {o : Oper} {ρ : Operand → Value} {w : World} {s t r : ByteArray} (hq : saq o ρ = some (s, t)) (hr : scat s t = some r) : (execOp ρ o).run P w = .ok (.value (.string r)) w := by
  unfold scat at hr
  split at hr
  case isFalse => cases hr
  rename_i hc
  injection hr with hr
  subst hr
  unfold saq at hq
  split at hq
  · rename_i T x y T' ho
    split at hq
    · rename_i s' t' hx hy
      simp only [Option.some.injEq, Prod.mk.injEq] at hq
      obtain ⟨rfl, rfl⟩ := hq
      have hn : (s'.size : Int) + (t'.size : Int) ≤ 9223372036854775807 := by unfold reach at hc; omega
      unfold execOp
      simp [ho, hx, hy, eqGuard, binOp, Op.stringOp, IntKind.max, IntKind.signed, IntKind.bits, hn]
    · cases hq
  · cases hq
end Go.Proofs.Ytcnlbnccghjeaaa.W
