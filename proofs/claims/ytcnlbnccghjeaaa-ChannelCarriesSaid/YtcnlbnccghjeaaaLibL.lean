/- Rows cut with three bounds; a row's own rest appended to its begin; what lies behind a row's end cleared. Conditions: none. -/
import Derived.Test.YtcnlbnccghjeaaaLibK
set_option linter.unusedVariables false
set_option linter.unusedSimpArgs false
namespace Go.Proofs.Ytcnlbnccghjeaaa.W
open Go

def cut3 {α : Type} (xs : List α) (lo hi mx : Int) : Option (List α) := if 0 ≤ lo ∧ lo ≤ hi ∧ hi ≤ mx ∧ hi ≤ xs.length ∧ mx ≤ xs.length then some ((xs.take hi.toNat).drop lo.toNat) else none
theorem cut3_some {α : Type} {xs r : List α} {lo hi mx : Int} (h : cut3 xs lo hi mx = some r) : r = (xs.take hi.toNat).drop lo.toNat ∧ 0 ≤ lo ∧ lo ≤ hi ∧ hi ≤ mx ∧ hi ≤ xs.length ∧ mx ≤ xs.length := by
  unfold cut3 at h
  split at h
  · rename_i hc; injection h with h; exact ⟨h.symm, hc⟩
  · cases h
def ct3q (P : Program) (o : Oper) (ρ : Operand → Value) : Option (Option Addr × Nat × Nat × Nat × Int × Int × Int) :=
  match o.op with
  | .slice t x lo (some hi) (some mx) => match ρ x, P.underlying t, ρ mx, ρ hi with
    | .slice a len cap, some (.slice E), .int _ k, .int _ h => match P.info? E, optI ρ lo 0 with
      | some i, some l => some (a, len, cap, i.size, l, h, k)
      | _, _ => none
    | _, _, _, _ => none
  | _ => none
theorem ct3q_run {P : Program} {o : Oper} {ρ : Operand → Value} {w : World} {a : Option Addr} {len cap sz : Nat} {l h k : Int} (hq : ct3q P o ρ = some (a, len, cap, sz, l, h, k)) (h0 : 0 ≤ l) (h1 : l ≤ h) (h2 : h ≤ k) (hk : k ≤ cap) :
    (execOp ρ o).run P w = .ok (.value (.slice (cutA a k.toNat l sz) (h.toNat - l.toNat) (k.toNat - l.toNat))) w := by
  unfold ct3q at hq
  split at hq
  case h_2 => cases hq
  rename_i t x lo hi mx ho
  split at hq
  case h_2 => cases hq
  rename_i a' len' cap' E kk k' kh h' hx hT hm hy
  split at hq
  case h_2 => cases hq
  rename_i i l' hi' hl
  simp only [Option.some.injEq, Prod.mk.injEq] at hq
  obtain ⟨rfl, rfl, rfl, rfl, rfl, rfl, rfl⟩ := hq
  have e1 : ∀ k (n : Int) (y : Nat) code, 0 ≤ n → n ≤ y → (Instr.sliceBound (.int k n) y code).run P w = .ok n.toNat w := by
    intro k n y code hn hy
    have : 0 ≤ n ∧ n ≤ (y : Int) := ⟨hn, hy⟩
    simp [Instr.sliceBound, asIntOf, this]
  have em := e1 kk k' cap' .slice3Acap (by omega) hk
  have e2 := e1 kh h' k'.toNat .slice3B (by omega) (by omega)
  unfold execOp
  simp only [ho, Instr.sliceAt, hx]
  cases lo with
  | none =>
    simp only [optI, Option.some.injEq] at hl
    subst hl
    simp [Instr.slice, run_underlying hT, Instr.sliceBounds, sizeOf, typeInfo, hi', hy, hm, em, e2, cutA]
  | some y0 =>
    simp only [optI] at hl
    split at hl
    · rename_i k0 n0 hy0
      simp only [Option.some.injEq] at hl
      subst hl
      have e3 := e1 k0 n0 h'.toNat .slice3C h0 (by omega)
      simp [Instr.slice, run_underlying hT, Instr.sliceBounds, sizeOf, typeInfo, hi', hy, hy0, hm, em, e2, e3, cutA]
    · cases hl
theorem own_cut3 {α : Type} {K : Kd α} {bytes : Nat} {E : TypeId} {m : Mem} {a : Option Addr} {cap sz : Nat} {I : Grp} {xs r : List α} {lo hi mx : Int} (h : OwnSl K bytes E m a cap I xs) (hr : cut3 xs lo hi mx = some r)
    {P : Program} {w : World} {o : Oper} {ρ : Operand → Value} (hq : ct3q P o ρ = some (a, xs.length, cap, sz, lo, hi, mx)) : (execOp ρ o).run P w = .ok (.value (.slice (cutA a mx.toNat lo sz) r.length (mx.toNat - lo.toNat))) w := by
  obtain ⟨rfl, h0, h1, h2, h3, h4⟩ := cut3_some hr
  have hlc := h.cap
  rw [ct3q_run hq h0 h1 h2 (by omega), show ((xs.take hi.toNat).drop lo.toNat).length = hi.toNat - lo.toNat by rw [List.length_drop, List.length_take]; omega]
theorem sl_cut3 {α : Type} {K : Kd α} {bytes : Nat} {m : Mem} {a : Option Addr} {cap : Nat} {xs r : List α} {lo hi mx : Int} (h : Sl K bytes m a cap xs) (hr : cut3 xs lo hi mx = some r) :
    Sl K bytes m (cutA a mx.toNat lo K.size) (mx.toNat - lo.toNat) r ∧ ∀ {P : Program} {w : World} {o : Oper} {ρ : Operand → Value}, ct3q P o ρ = some (a, xs.length, cap, K.size, lo, hi, mx) → (execOp ρ o).run P w = .ok (.value (.slice (cutA a mx.toNat lo K.size) r.length (mx.toNat - lo.toNat))) w := by
  obtain ⟨rfl, h0, h1, h2, h3, h4⟩ := cut3_some hr
  obtain ⟨⟨hlc, hrow⟩, hb1, hb2⟩ := h
  have hlen : ((xs.take hi.toNat).drop lo.toNat).length = hi.toNat - lo.toNat := by rw [List.length_drop, List.length_take]; omega
  refine ⟨⟨⟨by rw [hlen]; omega, fun i hi' => ?_⟩, ?_, by rw [hlen]; omega⟩, fun {P w o ρ} hq => by rw [ct3q_run hq h0 h1 h2 (by omega), hlen]⟩
  · have hi2 : lo.toNat + i < xs.length := by rw [hlen] at hi'; omega
    obtain ⟨ad, ha, c, hat, hsp, hrep⟩ := hrow (lo.toNat + i) hi2
    rw [hlen] at hi'
    unfold cutA
    rw [if_neg (by omega), ha]
    refine ⟨ad.add (lo.toNat * K.size), rfl, c, ?_, ?_, ?_⟩
    · rw [add_some ad hsp]
      simp only
      rw [Nat.add_mul] at hat
      rw [Nat.add_assoc]
      exact hat
    · rw [add_some ad hsp]
    · simpa [List.getElem_drop, List.getElem_take] using hrep
  · rw [hlen]
    exact Nat.le_trans (Nat.mul_le_mul_right _ (by omega)) hb1

/-- append(s[:i], s[j:]...): i is no more than j. -/
def appSelf {α : Type} (lo : Int) (ys zs : List α) : Option (List α) := if (ys.length : Int) ≤ lo then some (ys ++ zs) else none
theorem own_append_self {P : Program} {o : Oper} {ρ : Operand → Value} {w : World} {m : Mem} {z : Base} {G : List Grp} {α : Type} {K : Kd α} {bytes : Nat} {E : TypeId} {a : Option Addr} {cap : Nat} {I : Grp} {xs ys zs r : List α} {hi lo : Int}
    (hq : apq P o ρ = some (.slice a ys.length cap, .slice (cutA a cap lo K.size) zs.length (cap - lo.toNat), E, K.size, bytes)) (hst : W.St z w m (I :: G)) (ho : OwnSl K bytes E m a cap I xs)
    (hy : W.cut xs 0 hi = some ys) (hz : W.cut xs lo (xs.length : Int) = some zs) (hr : appSelf lo ys zs = some r) :
    ∃ I' w', (execOp ρ o).run P w = .ok (.value (.slice a r.length cap)) w' ∧ W.St z w' m (I' :: G) ∧ OwnSl K bytes E m a cap I' r ∧ r.length ≤ xs.length ∧ xs.length ≤ cap := by
  unfold appSelf at hr
  split at hr
  case isFalse => cases hr
  rename_i hle
  injection hr with hr
  obtain ⟨hye, h0, h1, h2⟩ := cut_some hy
  obtain ⟨hze, h3, h4, _⟩ := cut_some hz
  have hzt : Int.toNat 0 = 0 := rfl
  have hxt : ((xs.length : Int)).toNat = xs.length := by omega
  have hyl : ys.length = hi.toNat := by rw [hye, List.length_drop, List.length_take]; omega
  have hzl : zs.length = xs.length - lo.toNat := by rw [hze, List.length_drop, List.length_take]; omega
  have hrl : r.length = ys.length + zs.length := by rw [← hr, List.length_append]
  have hlc := ho.cap
  obtain ⟨t, i, zv, hT, hi', hzv, hzs, hsz, hby, hrun⟩ := apq_told hq
  obtain ⟨hb1, hb2, ho1⟩ := id ho
  rcases ho1 with ⟨rfl, rfl, rfl, rfl⟩ | ⟨b, arr, rfl, rfl, _, hcm, has, hrep⟩
  · have hy0 : ys = [] := by rw [hye]; simp
    have hz0 : zs = [] := by rw [hze]; simp
    subst hy0 hz0 hr
    refine ⟨[], w, ?_, hst, by simpa using ho, by simp, by simp⟩
    have := own_append_none (w := w) (K := K) (bytes := bytes) (E := E) (n := 0) (cap := 0) (Nat.le_refl _) (by simpa using hq)
    simpa using this
  · have hg := hst.get (b := b) (o := .cells arr E (0, 0)) (by simp)
    by_cases hz0 : zs.length = 0
    · have hz1 : zs = [] := List.length_eq_zero_iff.1 hz0
      refine ⟨_, w, ?_, hst, ?_, by omega, hlc⟩
      · have := own_append_none (w := w) (K := K) (bytes := bytes) (E := E) (n := ys.length) (cap := cap) (by omega) (by rw [hz0] at hq; exact hq)
        rw [hrl, hz0]; exact this
      · have hry : r = ys := by rw [← hr, hz1, List.append_nil]
        have hp := (own_pre ho hy).1
        rw [hry]; exact hp
    · have hca : cutA (some ⟨b, 0, none⟩) cap lo K.size = some ⟨b, lo.toNat * K.size, none⟩ := by
        unfold cutA; rw [if_neg (by omega)]; simp [add_some]
      have hal : arr.toList.length = arr.size := Array.length_toList
      have hrepz := hrep.drop lo.toNat
      have hzd : xs.drop lo.toNat = zs := by rw [hze, hxt, List.take_of_length_le (Nat.le_refl _)]
      rw [hzd] at hrepz
      have hle2 : xs.length * K.size ≤ arr.size := by rw [has]; exact Nat.mul_le_mul_right _ hlc
      have hlosz : lo.toNat * K.size ≤ xs.length * K.size := Nat.mul_le_mul_right _ (by omega)
      have hcells : ∀ j u, ((arr.toList.take (xs.length * K.size)).drop (lo.toNat * K.size))[j]? = some u → w.cell? ((⟨b, lo.toNat * K.size, none⟩ : Addr).add j) = some u := by
        intro j u hj
        rw [add_some _ rfl]
        have hlt := (List.getElem?_eq_some_iff.1 hj).1
        rw [List.length_drop, List.length_take] at hlt
        rw [List.getElem?_drop, List.getElem?_take, if_pos (by omega), Array.getElem?_toList] at hj
        simp only [World.cell?, hg]
        simpa using hj
      have hone : ∀ u ∈ (arr.toList.take (xs.length * K.size)).drop (lo.toNat * K.size), u.oneCell' = true := by
        intro u hu
        obtain ⟨j, hj, hju⟩ := List.mem_iff_getElem.1 hu
        have hj' := hj
        rw [hrepz.1] at hj'
        have hp := K.pos
        have hd := Nat.div_add_mod j K.size
        have hml := Nat.mod_lt j hp
        have hi2 : j / K.size < zs.length := by rw [Nat.div_lt_iff_lt_mul hp]; omega
        have h6 := K.one (hrepz.2 (j / K.size) hi2) (j % K.size) hml
        rw [List.getD_eq_getElem?_getD, show j / K.size * K.size + j % K.size = j by rw [Nat.mul_comm]; omega, List.getElem?_eq_getElem hj, hju] at h6
        exact h6
      have hroom : ys.length + zs.length ≤ cap := by omega
      have hnl : ((arr.toList.take (xs.length * K.size)).drop (lo.toNat * K.size)).length = zs.length * i.size := by rw [hrepz.1, hsz]
      have hfit : ys.length * i.size + ((arr.toList.take (xs.length * K.size)).drop (lo.toNat * K.size)).length ≤ arr.size := by
        rw [hnl, ← Nat.add_mul, hsz, has]; exact Nat.mul_le_mul_right _ hroom
      rw [hca] at hrun
      have hr2 := run_append_room (P := P) w t o.type E i hT hi' b ys.length cap arr hg ⟨b, lo.toNat * K.size, none⟩ zs.length (cap - lo.toNat) ((arr.toList.take (xs.length * K.size)).drop (lo.toNat * K.size)) hnl hcells hone hroom hfit
      have hr3 := hrun _ _ _ hr2
      rw [← hrl] at hr3
      refine ⟨_, _, hr3, hst.changed rfl rfl rfl (setRow_heap w b arr _ E _ hg) (fun k u hk hu => by rw [setRow_other w b k _ hk]; exact hu), ?_, by omega, hlc⟩
      · have hyt : ys = xs.take hi.toNat := by rw [hye, hzt]; rfl
        have hrepy := hrep.take hi.toNat
        rw [← hyt] at hrepy
        have hhx : hi.toNat * K.size ≤ xs.length * K.size := Nat.mul_le_mul_right _ (by omega)
        have hrlx : r.length ≤ xs.length := by omega
        refine ⟨Nat.le_trans (Nat.mul_le_mul_right _ hrlx) hb1, by omega, .inr ⟨b, _, rfl, rfl, by omega, hcm, ?_, ?_⟩⟩
        · simp only [List.size_toArray, List.length_append, List.length_take, List.length_drop, Array.length_toList]
          rw [List.length_drop, List.length_take, hal] at hfit
          rw [hsz] at hfit ⊢
          omega
        · have hl1 : (arr.toList.take (ys.length * i.size)).length = ys.length * i.size := by
            rw [List.length_take, hal, hsz, hyl]; omega
          have e1 : (arr.toList.take (ys.length * i.size) ++ (arr.toList.take (xs.length * K.size)).drop (lo.toNat * K.size) ++ arr.toList.drop (ys.length * i.size + ((arr.toList.take (xs.length * K.size)).drop (lo.toNat * K.size)).length)).toArray.toList.take (r.length * K.size) = arr.toList.take (ys.length * i.size) ++ (arr.toList.take (xs.length * K.size)).drop (lo.toNat * K.size) := by
            rw [show r.length * K.size = (arr.toList.take (ys.length * i.size) ++ (arr.toList.take (xs.length * K.size)).drop (lo.toNat * K.size)).length from by rw [List.length_append, hl1, hnl, hsz, hrl, Nat.add_mul]]
            exact List.take_left
          rw [e1, ← hr]
          refine RepL.append ?_ hrepz
          have e2 : (arr.toList.take (xs.length * K.size)).take (hi.toNat * K.size) = arr.toList.take (ys.length * i.size) := by
            rw [List.take_take, hyl, hsz, Nat.min_eq_left hhx]
          rw [← e2]; exact hrepy

/-- What lies behind the end of a row, up to its capacity. -/
theorem tail_run {P : Program} {o : Oper} {ρ : Operand → Value} {w : World} {α : Type} {K : Kd α} {bytes : Nat} {E : TypeId} {m : Mem} {a : Option Addr} {cap sz : Nat} {I : Grp} {xs : List α} {n : Nat} (h : OwnSl K bytes E m a cap I xs) (h1 : xs.length ≤ n) (h2 : n ≤ cap)
    (hq : ctq P o ρ = some (a, xs.length, cap, sz, (xs.length : Int), (n : Int))) : (execOp ρ o).run P w = .ok (.value (.slice (cutA a cap (xs.length : Int) sz) (n - xs.length) (cap - xs.length))) w := by
  rw [ctq_run hq (by omega) (by omega) (by omega) (by omega)]
  simp only [Int.toNat_natCast]; rfl
theorem own_clear_tail {P : Program} {o : Oper} {ρ : Operand → Value} {w : World} {m : Mem} {z : Base} {G : List Grp} {α : Type} {K : Kd α} {bytes : Nat} {E : TypeId} {a : Option Addr} {cap n : Nat} {I : Grp} {xs : List α} {zl : List Value} {zero : α}
    (hq : clq P o ρ = some (.slice (cutA a cap (xs.length : Int) K.size) (n - xs.length) (cap - xs.length), K.size, zl)) (hst : W.St z w m (I :: G)) (ho : OwnSl K bytes E m a cap I xs) (hz : K.rep m (W.cells zl) zero) (hzl : zl.length = K.size) (hn : n ≤ cap) :
    ∃ I' w', (execOp ρ o).run P w = .ok (.value (.tuple #[])) w' ∧ W.St z w' m (I' :: G) ∧ OwnSl K bytes E m a cap I' xs := by
  unfold clq at hq
  split at hq
  case h_2 => cases hq
  rename_i c hop
  split at hq
  case h_2 => cases hq
  rename_i x t hc ha hat
  split at hq
  case h_2 => cases hq
  rename_i E' hT
  split at hq
  case h_2 => cases hq
  rename_i i hi
  split at hq
  case h_2 => cases hq
  rename_i zv hzv
  simp only [Option.some.injEq, Prod.mk.injEq] at hq
  obtain ⟨hx, hsz, rfl⟩ := hq
  have ha' : c.args = #[x] := by rw [← ha]
  have hat' : c.argTypes = #[t] := by rw [← hat]
  by_cases hn0 : n - xs.length = 0
  · refine ⟨I, w, ?_, hst, ho⟩
    unfold execOp
    rw [hn0] at hx
    cases hcut : cutA a cap (xs.length : Int) K.size <;> rw [hcut] at hx <;> simp [hop, resolve, hc, ha', hat', hx, invoke, builtin, Builtin.clear_, run_underlying hT]
  · obtain ⟨hb1, hb2, ho1⟩ := id ho
    rcases ho1 with ⟨rfl, rfl, rfl, rfl⟩ | ⟨b, arr, rfl, rfl, hlc, hcm, has, hrep⟩
    · simp at hn hn0; omega
    have hg := hst.get (b := b) (o := .cells arr E (0, 0)) (by simp)
    have hal : arr.toList.length = arr.size := Array.length_toList
    have hvl : ((List.replicate (n - xs.length) zv.cells.toList).flatten).length = (n - xs.length) * K.size := by simp [hzl]
    have h1' : ∀ v ∈ (List.replicate (n - xs.length) zv.cells.toList).flatten, v.oneCell' = true := by
      intro v hv
      obtain ⟨l, hl, hvl⟩ := List.mem_flatten.1 hv
      rw [(List.mem_replicate.1 hl).2] at hvl
      obtain ⟨j, hj, hvj⟩ := List.mem_iff_getElem.1 hvl
      have hjk : j < K.size := by rw [← hzl]; exact hj
      have := K.one hz j hjk
      have h4 := cells_get zv.cells.toList j hj
      rw [List.getElem?_eq_getElem hj] at h4
      injection h4 with h4
      rw [← hvj, h4]; exact this
    have hfit : xs.length * K.size + 0 + ((List.replicate (n - xs.length) zv.cells.toList).flatten).length ≤ arr.size := by
      rw [hvl, has, Nat.add_zero, ← Nat.add_mul]; exact Nat.mul_le_mul_right _ (by omega)
    have hrun := run_storeCells_at P b (xs.length * K.size) E _ 0 arr w hg hfit h1'
    obtain ⟨X, hX, hrun⟩ : ∃ X, X = (arr.toList.take (xs.length * K.size + 0) ++ (List.replicate (n - xs.length) zv.cells.toList).flatten ++ arr.toList.drop (xs.length * K.size + 0 + ((List.replicate (n - xs.length) zv.cells.toList).flatten).length)).toArray ∧ (storeCells ⟨b, xs.length * K.size, none⟩ (List.replicate (n - xs.length) zv.cells.toList).flatten 0).run P w = .ok () (w.setRow b X) := ⟨_, rfl, hrun⟩
    refine ⟨[(b, .cells X E (0, 0))], w.setRow b X, ?_, hst.changed rfl rfl rfl (setRow_heap w b _ _ E _ hg) (fun k u hk hu => by rw [setRow_other w b k _ hk]; exact hu), ?_⟩
    · have hca : cutA (some ⟨b, 0, none⟩) cap (xs.length : Int) K.size = some ⟨b, xs.length * K.size, none⟩ := by
        unfold cutA; rw [if_neg (by simp only [Int.toNat_natCast]; omega)]; simp [add_some]
      rw [hca] at hx
      obtain ⟨nn, hnn⟩ : ∃ nn, n - xs.length = nn + 1 := ⟨n - xs.length - 1, by omega⟩
      rw [hnn] at hx hrun
      unfold execOp
      simp [hop, resolve, hc, ha', hat', hx, invoke, builtin, Builtin.clear_, run_underlying hT, zeroValue, typeInfo, hi, hzv, zeroCells_flat, hrun, hnn]
    · subst hX
      rw [hvl] at hfit
      refine ⟨hb1, hb2, .inr ⟨b, _, rfl, rfl, hlc, hcm, ?_, ?_⟩⟩
      · simp only [List.size_toArray, List.length_append, List.length_take, List.length_drop, hvl, hal]; omega
      · have : (arr.toList.take (xs.length * K.size + 0) ++ (List.replicate (n - xs.length) zv.cells.toList).flatten ++ arr.toList.drop (xs.length * K.size + 0 + ((List.replicate (n - xs.length) zv.cells.toList).flatten).length)).toArray.toList.take (xs.length * K.size) = arr.toList.take (xs.length * K.size) := by
          rw [List.toList_toArray, Nat.add_zero, List.append_assoc]
          have hll : (arr.toList.take (xs.length * K.size)).length = xs.length * K.size := by rw [List.length_take, hal]; omega
          conv => lhs; rw [← hll]
          rw [hll]
          exact List.take_left' hll
        rw [this]; exact hrep
theorem Sl.pre {α : Type} {K : Kd α} {bytes : Nat} {m : Mem} {a : Option Addr} {cap : Nat} {xs r : List α} {hi : Int} (h : Sl K bytes m a cap xs) (hr : W.cut xs 0 hi = some r) : Sl K bytes m a cap r := by
  have h1 := h.cut_is hr
  have h2 : cutA a cap 0 K.size = a := by unfold cutA; split <;> (cases a <;> simp [Addr.add])
  rw [h2] at h1
  simpa using h1
/-- What is known of plain data that came in. -/
def WL {α : Type} (p : α → Prop) (bytes : Nat) (xs : List α) : Prop := xs.length * bytes ≤ reach ∧ xs.length ≤ reach ∧ ∀ x ∈ xs, p x
theorem w_int {k : IntKind} {m : Mem} {c : Nat → Value} {x : Int} (h : (kInt k).rep m c x) : InR k x := h.2
theorem w_bool {m : Mem} {c : Nat → Value} {x : Bool} (h : kBool.rep m c x) : True := trivial
theorem w_str {m : Mem} {c : Nat → Value} {x : ByteArray} (h : kStr.rep m c x) : x.size ≤ reach := h.2
theorem w_sl {α : Type} {K : Kd α} {p : α → Prop} (hp : ∀ {m : Mem} {c : Nat → Value} {x : α}, K.rep m c x → p x) {bytes : Nat} {m : Mem} {c : Nat → Value} {xs : List α} (h : (kSl K bytes).rep m c xs) : WL p bytes xs := by
  obtain ⟨a, cap, _, hrow, h1, h2⟩ := h
  refine ⟨h1, h2, fun x hx => ?_⟩
  obtain ⟨i, hi, rfl⟩ := List.mem_iff_getElem.1 hx
  obtain ⟨ad, _, c, _, _, hr⟩ := hrow.2 i hi
  exact hp hr
theorem calls_cast {P : Program} {f : FuncId} {args args' : Array Value} {w : World} {R : Ending → World → Prop} (h : Calls P f args w R) (he : args = args') : Calls P f args' w R := by subst he; exact h
def u8 (x : Int) : UInt8 := UInt8.ofNat x.toNat
def byq (P : Program) (o : Oper) (ρ : Operand → Value) : Option Value :=
  match o.op with
  | .convert a b x => match P.underlying a, P.underlying b with
    | some (.slice E), some .string => match P.underlying E with
      | some (.int .u8) => some (ρ x)
      | _ => none
    | _, _ => none
  | _ => none
theorem bytes_run1 {P : Program} {o : Oper} {ρ : Operand → Value} {w : World} {m : Mem} {z : Base} {G : List Grp} {b c : Nat} {n : Int} {E : TypeId} {fr : Nat × Nat} (hq : byq P o ρ = some (.slice (some ⟨b, 0, none⟩) 1 c)) (hst : W.St z w m ([(b, .cells [Value.int .u8 n].toArray E fr)] :: G)) :
    (execOp ρ o).run P w = .ok (.value (.string (lit [u8 n]))) w := by
  unfold byq at hq
  split at hq
  case h_2 => cases hq
  rename_i a b' x ho
  split at hq
  case h_2 => cases hq
  rename_i E' hT hT2
  split at hq
  case h_2 => cases hq
  rename_i hE
  injection hq with hq
  have hl := run_loadCells_list (P := P) w ⟨b, 0, none⟩ [.int .u8 n] (fun j v hj => by
    have hlt := (List.getElem?_eq_some_iff.1 hj).1
    have h0 : j = 0 := by simp at hlt; omega
    subst h0
    have := hst.ocells [] 0 (by simp)
    rw [this]; simpa [W.cells] using hj)
  simp only [List.length_cons, List.length_nil, Nat.zero_add] at hl
  unfold execOp
  simp [ho, hq, convert, run_underlying hT, run_underlying hT2, run_underlying hE, Conv.bytesToString, hl]
  rfl
theorem add_add (ad : Addr) (i j : Nat) : (ad.add i).add j = ad.add (i + j) := by
  unfold Addr.add
  by_cases h1 : i = 0
  · subst h1; simp
  · by_cases h2 : j = 0
    · subst h2; simp [h1]
    · simp [h1, h2, show i + j ≠ 0 by omega, Nat.add_assoc]
theorem part_cells {w : World} {ad : Addr} {s : Nat} {l : List Value} (h : ∀ j, j < s → w.cell? (ad.add j) = some (W.cells l j)) (o n : Nat) (hs : o + n ≤ s) : ∀ j, j < n → w.cell? ((ad.add o).add j) = some (W.cells ((l.drop o).take n) j) := by
  intro j hj
  rw [add_add, h (o + j) (by omega)]
  have h1 : ∀ (o : Nat) (l : List Value), W.cells l (o + j) = W.cells (l.drop o) j := by
    intro o
    induction o with
    | zero => intro l; simp
    | succ o ih =>
      intro l
      cases l with
      | nil => simp [W.cells]
      | cons v r =>
        rw [show o + 1 + j = (o + j) + 1 from by omega]
        simpa [W.cells] using ih r
  have h2 : ∀ (l : List Value) (s' j : Nat), j < s' → W.cells l j = W.cells (l.take s') j := by
    intro l
    induction l with
    | nil => intro s' j hj; simp [W.cells]
    | cons v r ih =>
      intro s' j hj
      cases s' with
      | zero => omega
      | succ s' => cases j with
        | zero => simp [W.cells]
        | succ j => simpa [W.cells] using ih s' j (by omega)
  rw [h1, h2 _ n j hj]
end Go.Proofs.Ytcnlbnccghjeaaa.W
