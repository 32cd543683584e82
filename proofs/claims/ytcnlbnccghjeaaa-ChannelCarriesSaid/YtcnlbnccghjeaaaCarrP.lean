/- What the channel carries, plainly: a frame comes out as it was sent, or with the one byte damaged. Conditions: none. -/
import Derived.Test.YtcnlbnccghjeaaaLChannelCarries
import Derived.Test.YtcnlbnccghjeaaaPureC
set_option linter.unusedVariables false
set_option linter.unusedSimpArgs false
namespace Go.Proofs.Ytcnlbnccghjeaaa.W
open Go

/-! ### 1. What lies under a number -/

theorem mget_mset {ν : Type} : ∀ {l : List (Int × ν)} {k : Int} {v : ν} {j : Int}, mget (mset l k v) j = if j = k then some v else mget l j
  | [], k, v, j => by
    by_cases h : j = k
    · subst h; simp [mset, mget]
    · have : (k == j) = false := by simpa using fun e => h e.symm
      simp [mset, mget, this, h]
  | (a, u) :: r, k, v, j => by
    have ih := mget_mset (l := r) (k := k) (v := v) (j := j)
    by_cases hak : a = k
    · subst hak
      simp only [mset, beq_self_eq_true, if_true, mget]
      by_cases h : a = j
      · subst h; simp
      · have hb : (a == j) = false := by simpa using h
        have hj : ¬ j = a := fun e => h e.symm
        simp [hb, hj]
    · have hb : (a == k) = false := by simpa using hak
      simp only [mset, hb, Bool.false_eq_true, if_false, mget, ih]
      by_cases h : a = j
      · subst h; simp [hak]
      · have hb2 : (a == j) = false := by simpa using h
        simp [hb2]
theorem mget_mdel {ν : Type} : ∀ {l : List (Int × ν)} {k j : Int}, j ≠ k → mget (mdel l k) j = mget l j
  | [], k, j, h => rfl
  | (a, u) :: r, k, j, h => by
    have ih := mget_mdel (l := r) (k := k) (j := j) h
    by_cases hak : a = k
    · subst hak
      have hb : (a == j) = false := by simpa using fun e => h e.symm
      simp [mdel, mget, hb]
    · have hb : (a == k) = false := by simpa using hak
      simp only [mdel, hb, Bool.false_eq_true, if_false, mget, ih]
theorem send_keep {n m : Nat} {c : S62} (hw : WF n m c) {k : Int} {v : S36} (hk : mget c.f1 k = some v) (a b : Int) (fr : ByteArray) : mget (sendR c a b fr).2.2.f1 k = some v ∧ (sendR c a b fr).2.2.f2.length ≤ c.f2.length + 1 := by
  have := hw.rng _ (hw.mem hk)
  unfold sendR
  split
  · split
    · exact ⟨hk, by simp⟩
    · simp only []
      rw [mget_mset, if_neg (by omega)]
      exact ⟨hk, by simp⟩
  · exact ⟨hk, by simp⟩
theorem do_keep {n m : Nat} {c : S62} (hw : WF n m c) {x : S40} {k : Int} {v : S36} (hk : mget c.f1 k = some v) (hx : x.f0 = 0 ∨ x.f0 = 5 ∨ x.f1 ≠ k) :
    mget (doR c x).2.2.2.f1 k = some v ∧ (doR c x).2.2.2.f2.length ≤ c.f2.length + 1 := by
  have hf : ∀ j : Int, (c.f2.filter fun x => x != j).length ≤ c.f2.length := fun j => List.length_filter_le _ _
  have h1 := hf x.f1
  unfold doR
  split
  · exact send_keep hw hk _ _ _
  split
  · unfold delivR
    split
    · split
      · exact ⟨by rw [mget_mdel (by omega)]; exact hk, by simp only []; omega⟩
      · exact ⟨hk, by simp only []; omega⟩
    · exact ⟨hk, by simp only []; omega⟩
  split
  · unfold dropR
    split
    · exact ⟨by rw [mget_mdel (by omega)]; exact hk, by simp only []; omega⟩
    · exact ⟨hk, by simp only []; omega⟩
  split
  · unfold repR
    split
    · exact send_keep hw hk _ _ _
    · exact ⟨hk, by simp only []; omega⟩
  split
  · unfold damR
    split
    · split
      · exact ⟨hk, by simp only []; omega⟩
      · exact ⟨by rw [mget_mset, if_neg (by omega)]; exact hk, by simp only []; omega⟩
    · exact ⟨hk, by simp only []; omega⟩
  · unfold cutR
    split
    · exact ⟨hk, by simp only []; omega⟩
    · exact ⟨hk, by simp only []; omega⟩
theorem carr_ops {n : Nat} {ds : Int} {list : List S40} {a b : Int} {fr : ByteArray} {ai bi k : Int} {v : S36} (hs : ∀ x ∈ list, x.f3.size ≤ 100 ∧ 0 ≤ x.f0 ∧ x.f0 ≤ 5) (hl : list.length ≤ 30) {k1 : S62 → Prop}
    (hk : ∀ c, WF n 31 c → mget c.f1 k = some v → c.f2.length ≤ 31 → k1 c) :
    ∀ (d i : Nat) (c : S62), d = list.length - i → i ≤ list.length → WF n (i + 1) c → mget c.f1 k = some v → c.f2.length ≤ i + 1 → f6_l2 ds list a b fr ai bi k k1 c (i : Int) := by
  intro d
  induction d with
  | zero =>
    intro i c hd hi hw hg hc X hX
    apply hX; unfold f6_l2_b
    rw [if_neg (by omega)]
    exact hk c (hw.mono (by omega)) hg (by omega)
  | succ d ih =>
    intro i c hd hi hw hg hc X hX
    apply hX; unfold f6_l2_b
    have hlt : i < list.length := by omega
    rw [if_pos (by omega)]
    refine ofO_ix i rfl hlt ?_
    have hx := hs _ (List.getElem_mem hlt)
    have go : (list[i].f0 = 0 ∨ list[i].f0 = 5 ∨ list[i].f1 ≠ k) → f6_j3 ds list a b fr ai bi k X c i list[i] false := fun h => by
      obtain ⟨e1, e2⟩ := do_keep hw hg h
      unfold f6_j3
      rw [if_neg (by simp)]
      refine do_spec hw (by omega) ?_
      unfold f6_j4
      rw [w64_eq (by omega) (by omega)]
      exact ih (i + 1) _ (by omega) (by omega) (do_wf hw (by omega)) e1 (by omega) X hX
    split
    · rename_i h; exact go (Or.inl h)
    split
    · rename_i h; exact go (Or.inr (Or.inl h))
    · by_cases h : list[i].f1 = k
      · rw [show (list[i].f1 == k) = true by simpa using h]
        unfold f6_j3 f6_j4
        rw [if_pos rfl, w64_eq (by omega) (by omega)]
        exact ih (i + 1) c (by omega) (by omega) (hw.mono (by omega)) hg (by omega) X hX
      · rw [show (list[i].f1 == k) = false by simpa using h]
        exact go (Or.inr (Or.inr h))

/-! ### 2. Every display connected -/

def ConC (c : S62) (i : Nat) : Prop := ∀ j : Nat, 1 ≤ j → j < i → c.f0.getD j false = false
theorem conC_open {n m : Nat} {c : S62} (hw : WF n m c) (hc : ConC c (n + 1)) {v : S36} (hv : vld (n + 1) v.f0 v.f1 = true) : openB c v = true := by
  unfold openB
  have : 1 ≤ v.f0 + v.f1 ∧ v.f0 + v.f1 < ((n + 1 : Nat) : Int) := by simp [vld, disp] at hv; omega
  rw [hc _ (by omega) (by omega)]; rfl
theorem conC_cut {n m : Nat} {c : S62} (hw : WF n m c) {i : Nat} (h1 : 1 ≤ i) (h2 : i ≤ n) (hc : ConC c i) : (cutR c i false).1 = 0 ∧ ConC (cutR c i false).2 (i + 1) ∧ (cutR c i false).2.f1 = c.f1 := by
  have hl := hw.len
  unfold cutR
  rw [if_pos (by simp [disp]; omega)]
  refine ⟨rfl, fun j hj1 hj2 => ?_, rfl⟩
  simp only [Int.toNat_natCast]
  rw [List.getD_eq_getElem?_getD]
  by_cases h : j = i
  · subst h; rw [List.getElem?_set_self (by omega)]; rfl
  · rw [List.getElem?_set_ne (by omega), ← List.getD_eq_getElem?_getD]; exact hc j hj1 (by omega)
theorem carr_cuts {n m : Nat} {a b : Int} {fr : ByteArray} {ai bi k j : Int} {k1 : S62 → Prop} {Q : Bool → Prop} {l : List (Int × S36)} (hk : ∀ c, WF n m c → ConC c (n + 1) → c.f1 = l → k1 c) :
    ∀ (d i : Nat) (c : S62), d = n + 1 - i → i ≤ n + 1 → 1 ≤ i → WF n m c → ConC c i → c.f1 = l → f6_l6 (n : Int) a b fr ai bi k j k1 Q c (i : Int) := by
  intro d
  induction d with
  | zero =>
    intro i c hd hi h1 hw hc hl X hX
    apply hX; unfold f6_l6_b f6_j7
    rw [if_neg (by omega)]
    exact hk c hw (by have : i = n + 1 := by omega
                      subst this; exact hc) hl
  | succ d ih =>
    intro i c hd hi h1 hw hc hl X hX
    apply hX; unfold f6_l6_b f6_j7
    have hn := hw.nle
    rw [if_pos (by omega)]
    obtain ⟨e1, e2, e3⟩ := conC_cut hw h1 (by omega) hc
    refine cut_spec hw ?_
    rw [if_pos e1, w64_eq (by omega) (by omega)]
    exact ih (i + 1) _ (by omega) (by omega) (by omega) (cut_wf hw) e2 (by rw [e3, hl]) X hX

/-! ### 3. Bytes -/

theorem sx_lt {s : ByteArray} {i : Nat} (h : i < s.size) : sx s (i : Int) = some (s[i].toNat : Int) := by
  unfold sx; rw [if_pos (by omega)]; simp [h]
theorem dmg_at {s : ByteArray} {i b : Int} (h1 : 0 ≤ i) (h2 : i < (s.size : Int)) (hb : InR .u8 b) {j : Nat} (hj : j < s.size) :
    sx (dmg s i b) (j : Int) = some (if (j : Int) = i then b else (s[j].toNat : Int)) := by
  have hs := dmg_size (b := b) h1 h2
  have l1 : (lit [u8 b]).size = 1 := rfl
  rw [sx_lt (by omega)]
  have hbr : 0 ≤ b ∧ b ≤ 255 := by simpa [InR, IntKind.bits, IntKind.signed] using hb
  congr 1
  unfold dmg
  have sz0 : (s.extract 0 i.toNat).size = i.toNat := by simp [ByteArray.size_extract]; omega
  have sz1 : (s.extract 0 i.toNat ++ lit [u8 b]).size = i.toNat + 1 := by simp [ByteArray.size_append, sz0, l1]
  split
  · rename_i he
    have : j = i.toNat := by omega
    subst this
    rw [ByteArray.getElem_append_left (by omega), ByteArray.getElem_append_right (by omega)]
    simp only [sz0, Nat.sub_self]
    show ((u8 b).toNat : Int) = b
    unfold u8; simp; omega
  · rename_i he
    rcases Nat.lt_or_ge j i.toNat with h | h
    · rw [ByteArray.getElem_append_left (by omega), ByteArray.getElem_append_left (by omega), ByteArray.getElem_extract]
      simp
    · rw [ByteArray.getElem_append_right (by omega), ByteArray.getElem_extract]
      simp only [sz1]
      congr 2
      congr 1
      omega
theorem carr_bytes {fr s : ByteArray} {ai bi : Int} {v : S36} (hsz : fr.size ≤ 1000) (hv : ∀ j (h : j < fr.size), sx v.f2 (j : Int) = some (if (j : Int) = ai then bi else (fr[j].toNat : Int))) {Q : Bool → Prop} (hq : Q true) :
    ∀ (d j : Nat), d = fr.size - j → j ≤ fr.size → f6_l10 fr ai bi v (Q true) Q (j : Int) := by
  intro d
  induction d with
  | zero =>
    intro j hd hj X hX
    apply hX; unfold f6_l10_b f6_j11
    rw [if_neg (by omega)]; exact hq
  | succ d ih =>
    intro j hd hj X hX
    apply hX; unfold f6_l10_b f6_j11
    have hlt : j < fr.size := by omega
    rw [if_pos (by omega)]
    have nxt : f6_j12 fr ai bi v Q X (j : Int) false := by
      unfold f6_j12
      rw [if_neg (by simp), w64_eq (by omega) (by omega)]
      exact ih (j + 1) (by omega) (by omega) X hX
    have h := hv j hlt
    by_cases he : (j : Int) = ai
    · rw [if_pos he] at h ⊢
      refine ⟨_, h, ?_⟩
      dsimp only
      rw [if_pos rfl, if_pos he]; exact nxt
    · rw [if_neg he] at h ⊢
      rw [if_neg he]
      refine ⟨_, h, _, sx_lt hlt, ?_⟩
      dsimp only
      rw [show ((fr[j].toNat : Int) != (fr[j].toNat : Int)) = false by simp]; exact nxt

/-! ### 4. The law -/

theorem deliv_open {n m : Nat} {c : S62} (hw : WF n m c) (hc : ConC c (n + 1)) {k : Int} {v : S36} (h : mget c.f1 k = some v) : (delivR c k).1 = v ∧ (delivR c k).2.1 = 0 ∧ ConC (delivR c k).2.2 (n + 1) ∧ (delivR c k).2.2.f1 = mdel c.f1 k := by
  unfold delivR
  rw [h]
  simp only []
  rw [if_pos (conC_open hw hc (hw.frm _ (mget_mem h)).1)]
  exact ⟨rfl, rfl, hc, rfl⟩
theorem carr_end {n m : Nat} (hm : m ≤ 1000) {ds : Int} {list : List S40} {a b : Int} {fr : ByteArray} {ai bi : Int} (hfr : fr.size ≤ 100) (hbi : InR .u8 bi) {c : S62} (hw : WF n m c) (hc : ConC c (n + 1)) {k j : Int} (hjk : j ≠ k)
    (hj : mget c.f1 j = some ⟨a, b, fr⟩) (hk : mget c.f1 k = some (if ai < 0 ∨ ai ≥ (fr.size : Int) then ⟨a, b, fr⟩ else ⟨a, b, dmg fr ai bi⟩)) {Q : Bool → Prop} (hq : Q true) :
    f6_j8 ds list a b fr ai bi Q c k j := by
  unfold f6_j8
  obtain ⟨e1, e2, e3, e4⟩ := deliv_open hw hc hj
  have hw' := deliv_wf hw (k := j)
  have hk' : mget (delivR c j).2.2.f1 k = some (if ai < 0 ∨ ai ≥ (fr.size : Int) then ⟨a, b, fr⟩ else ⟨a, b, dmg fr ai bi⟩) := by
    rw [e4, mget_mdel (fun e => hjk e.symm)]; exact hk
  obtain ⟨d1, d2, _, _⟩ := deliv_open hw' e3 hk'
  refine deliv_spec hw (by omega) (deliv_spec hw' (by omega) ?_)
  rw [if_pos e2, if_pos d2, e1, d1, if_pos (by simp)]
  have h0 : (if ai < 0 ∨ ai ≥ (fr.size : Int) then (⟨a, b, fr⟩ : S36) else ⟨a, b, dmg fr ai bi⟩).f0 = a := by split <;> rfl
  have h1 : (if ai < 0 ∨ ai ≥ (fr.size : Int) then (⟨a, b, fr⟩ : S36) else ⟨a, b, dmg fr ai bi⟩).f1 = b := by split <;> rfl
  have h2 : (if ai < 0 ∨ ai ≥ (fr.size : Int) then (⟨a, b, fr⟩ : S36) else ⟨a, b, dmg fr ai bi⟩).f2.size = fr.size := by
    split
    · rfl
    · rename_i h; exact dmg_size (by omega) (by omega)
  rw [if_pos h0, if_pos h1]
  unfold f6_j9
  rw [h2, if_neg (by simp)]
  refine carr_bytes (s := fr) (by omega) (fun i hi => ?_) hq fr.size 0 rfl (by omega)
  split
  · rename_i h
    rw [sx_lt hi, if_neg (by omega)]
  · rename_i h
    exact dmg_at (by omega) (by omega) hbi hi
theorem carries_pure : PureChannelCarries := by
  intro x0 x1 x2 x3 x4 x5 x6 _ _ _ _ _ _ h6
  unfold f6
  refine awake_ok ?_
  rw [if_pos rfl]
  refine new_spec ?_
  have yes : ∀ c, f6_j1 x0 x1 x2 x3 x4 x5 x6 (fun r => r = true) c true := fun c => by unfold f6_j1; rw [if_pos rfl]
  by_cases h : 1 ≤ x0 ∧ x0 ≤ 16
  · rw [if_pos h]
    dsimp only
    rw [if_pos rfl]
    refine small_spec (by omega) ?_
    by_cases hs : smallB x1 30 = true
    · rw [if_pos hs]
      by_cases hf : (x4.size : Int) > 100
      · rw [show decide ((x4.size : Int) > 100) = true by simpa using hf]; exact yes _
      rw [show decide ((x4.size : Int) > 100) = false by simpa using hf]
      obtain ⟨hl, hx⟩ := small_of hs
      obtain ⟨n, rfl⟩ : ∃ n : Nat, x0 = n := ⟨x0.toNat, by omega⟩
      have w0 : WF n 0 ⟨List.replicate (n + 1) false, [], [], 0, 0, 0⟩ := new_wf (by omega)
      have w1 := send_wf w0 (a := x2) (b := x3) (fr := x4) (by omega)
      unfold f6_j1
      rw [if_neg (by simp)]
      unfold onPtr
      simp only [Int.toNat_natCast]
      refine send_spec w0 (by omega) ?_
      by_cases hok : (sendR ⟨List.replicate (n + 1) false, [], [], 0, 0, 0⟩ x2 x3 x4).2.1 = 0
      · rw [if_pos hok]
        have hv : vld (n + 1) x2 x3 = true := by
          by_cases hv : vld (n + 1) x2 x3 = true
          · exact hv
          · exfalso; unfold sendR at hok; rw [if_neg (by simpa using hv)] at hok; simp at hok
        have es : sendR ⟨List.replicate (n + 1) false, [], [], 0, 0, 0⟩ x2 x3 x4 = (0, 0, ⟨List.replicate (n + 1) false, [(0, ⟨x2, x3, x4⟩)], [0], 1, 0, 0⟩) := by
          unfold sendR; rw [if_pos (by simpa using hv), if_neg (by simp)]; rfl
        rw [es] at w1 ⊢
        refine carr_ops (n := n) (v := ⟨x2, x3, x4⟩) hx (by omega) (fun c hw hg hc => ?_) x1.length 0 _ rfl (by omega) w1 rfl (by simp)
        have er : repR c 0 = (c.f3, 0, ⟨c.f0, mset c.f1 c.f3 ⟨x2, x3, x4⟩, c.f2 ++ [c.f3], c.f3 + 1, c.f4, c.f5⟩) := by
          unfold repR; rw [hg]; simp only []
          unfold sendR; rw [if_pos (by rw [hw.len]; exact hv), if_neg (by omega)]
        have hr := hw.rng _ (hw.mem hg)
        have w2 := rep_wf hw (k := 0)
        refine rep_spec hw (by omega) ?_
        rw [er] at w2 ⊢
        dsimp only at w2 ⊢
        have w3 := dam_wf w2 (k := 0) (i := x5) (b := x6)
        have g0 : mget (mset c.f1 c.f3 (⟨x2, x3, x4⟩ : S36)) 0 = some ⟨x2, x3, x4⟩ := by rw [mget_mset, if_neg (by omega)]; exact hg
        refine dam_spec w2 ?_
        rw [if_pos rfl]
        have go : ∀ c', WF n 32 c' → mget c'.f1 c.f3 = some ⟨x2, x3, x4⟩ → mget c'.f1 0 = some (if x5 < 0 ∨ x5 ≥ (x4.size : Int) then ⟨x2, x3, x4⟩ else ⟨x2, x3, dmg x4 x5 x6⟩) → f6_j5 n x1 x2 x3 x4 x5 x6 (fun r => r = true) c' 0 c.f3 false := fun c' hw' g1 g2 => by
          unfold f6_j5
          rw [if_neg (by simp)]
          refine carr_cuts (n := n) (m := 32) (l := c'.f1) (fun c2 hw2 hc2 hl2 => ?_) n 1 c' (by omega) (by omega) (by omega) hw' (fun j h1 h2 => by omega) rfl
          exact carr_end (m := 32) (by omega) (by omega) h6 hw2 hc2 (by omega) (by rw [hl2]; exact g1) (by rw [hl2]; exact g2) rfl
        by_cases hin : x5 < 0 ∨ x5 ≥ (x4.size : Int)
        · have ed : damR ⟨c.f0, mset c.f1 c.f3 ⟨x2, x3, x4⟩, c.f2 ++ [c.f3], c.f3 + 1, c.f4, c.f5⟩ 0 x5 x6 = (1, ⟨c.f0, mset c.f1 c.f3 ⟨x2, x3, x4⟩, c.f2 ++ [c.f3], c.f3 + 1, c.f4, c.f5⟩) := by
            unfold damR; rw [g0]; simp only []; rw [if_pos hin]
          rw [ed]
          have fin := go ⟨c.f0, mset c.f1 c.f3 ⟨x2, x3, x4⟩, c.f2 ++ [c.f3], c.f3 + 1, c.f4, c.f5⟩ w2 (by rw [mget_mset, if_pos rfl]) (by rw [if_pos hin]; exact g0)
          split
          · rw [show decide (x5 < (x4.size : Int)) = false by simp; omega]; exact fin
          · exact fin
        · have ed : damR ⟨c.f0, mset c.f1 c.f3 ⟨x2, x3, x4⟩, c.f2 ++ [c.f3], c.f3 + 1, c.f4, c.f5⟩ 0 x5 x6 = (0, ⟨c.f0, mset (mset c.f1 c.f3 ⟨x2, x3, x4⟩) 0 ⟨x2, x3, dmg x4 x5 x6⟩, c.f2 ++ [c.f3], c.f3 + 1, c.f4, c.f5⟩) := by
            unfold damR; rw [g0]; simp only []; rw [if_neg hin]
          rw [ed] at w3 ⊢
          rw [if_pos (by omega), show decide (x5 < (x4.size : Int)) = true by simp; omega]
          refine go _ w3 ?_ ?_
          · simp only []; rw [mget_mset, if_neg (by omega), mget_mset, if_pos rfl]
          · simp only []; rw [mget_mset, if_pos rfl, if_neg hin]
      · rw [if_neg hok]
        trivial
    · rw [if_neg hs]; exact yes _
  · rw [if_neg h]
    dsimp only
    rw [if_neg (by decide)]
    exact yes _
end Go.Proofs.Ytcnlbnccghjeaaa.W
