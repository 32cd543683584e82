/- The channel and its reference, plainly: step by step they answer alike. Conditions: none. -/
import Derived.Test.YtcnlbnccghjeaaaLChannelPlays
import Derived.Test.YtcnlbnccghjeaaaPureC
set_option linter.unusedVariables false
set_option linter.unusedSimpArgs false
namespace Go.Proofs.Ytcnlbnccghjeaaa.W
open Go

/-! ### 1. Lists with different keys, by place -/

theorem mget_at {ν : Type} : ∀ {l : List (Int × ν)} {i : Nat} (h : i < l.length), (l.map (·.1)).Nodup → mget l l[i].1 = some l[i].2
  | l, i, h, hn => mget_of_mem hn (List.getElem_mem h)
theorem mdel_at {ν : Type} : ∀ {l : List (Int × ν)} {i : Nat} (h : i < l.length), (l.map (·.1)).Nodup → mdel l l[i].1 = l.take i ++ l.drop (i + 1)
  | (a, v) :: r, 0, h, hn => by simp [mdel]
  | (a, v) :: r, i + 1, h, hn => by
    simp only [List.map_cons, List.nodup_cons] at hn
    simp only [List.length_cons] at h
    have hi : i < r.length := by omega
    have hne : (a == r[i].1) = false := by
      have : a ≠ r[i].1 := fun e => hn.1 (e ▸ List.mem_map.2 ⟨_, List.getElem_mem hi, rfl⟩)
      simpa using this
    simp [mdel, hne, mdel_at hi hn.2]
theorem mset_at {ν : Type} : ∀ {l : List (Int × ν)} {i : Nat} {u : ν} (h : i < l.length), (l.map (·.1)).Nodup → mset l l[i].1 u = l.set i (l[i].1, u)
  | (a, v) :: r, 0, u, h, hn => by simp [mset]
  | (a, v) :: r, i + 1, u, h, hn => by
    simp only [List.map_cons, List.nodup_cons] at hn
    simp only [List.length_cons] at h
    have hi : i < r.length := by omega
    have hne : (a == r[i].1) = false := by
      have : a ≠ r[i].1 := fun e => hn.1 (e ▸ List.mem_map.2 ⟨_, List.getElem_mem hi, rfl⟩)
      simpa using this
    simp [mset, hne, mset_at hi hn.2]

/-! ### 2. The reference's steps -/

def rf (p : Int × S36) : S67 := ⟨p.1, p.2⟩
def toRef (n : Nat) (c : S62) : S47 := ⟨n, c.f0, c.f1.map rf, ⟨c.f3, c.f4, c.f5⟩⟩
theorem put_spec {n m : Nat} {c : S62} (hw : WF n m c) (hm : m ≤ 1000000) {a b : Int} {fr : ByteArray} (hv : vld (n + 1) a b = true) {Q : Int × Int × S47 → Prop} (h : Q ((sendR c a b fr).1, (sendR c a b fr).2.1, toRef n (sendR c a b fr).2.2)) : f28 (toRef n c) ⟨a, b, fr⟩ Q := by
  have hl := hw.l1
  have hc := hw.cap
  have hz := hw.z
  have hs := hw.small
  unfold sendR at h
  rw [hw.len, if_pos hv] at h
  unfold f28
  by_cases hf : (c.f2.length : Int) = 4096
  · rw [if_pos hf] at h; rw [if_pos (by simp [toRef]; omega)]; exact h
  · rw [if_neg hf] at h; rw [if_neg (by simp [toRef]; omega)]
    refine ofO_app (by simp [toRef, reach]; omega) (by simp [toRef, reach]; omega) ?_
    simp only [toRef]
    rw [w64_eq (by omega) (by omega)]
    simpa [toRef, mset_new hw.fresh, rf] using h
theorem find_spec {n m : Nat} {c : S62} (hw : WF n m c) {k : Int} {Q : Int → Prop} (h1 : ∀ (i : Nat) (h : i < c.f1.length), c.f1[i].1 = k → Q i) (h2 : k ∉ c.f1.map (·.1) → Q (-1)) : f29 (toRef n c) k Q := by
  have hl := hw.l1
  have hc := hw.cap
  unfold f29
  have key : ∀ d i, d = c.f1.length - i → i ≤ c.f1.length → (∀ j (h : j < c.f1.length), j < i → c.f1[j].1 ≠ k) → f29_l1 (toRef n c) k (Q (-1)) Q (i : Int) := by
    intro d
    induction d with
    | zero =>
      intro i hd hi hp X hX
      apply hX; unfold f29_l1_b
      rw [if_neg (by simp [toRef]; omega)]
      refine h2 fun hm => ?_
      obtain ⟨p, hp', e⟩ := List.mem_map.1 hm
      obtain ⟨j, hj, rfl⟩ := List.mem_iff_getElem.1 hp'
      exact hp j hj (by omega) e
    | succ d ih =>
      intro i hd hi hp X hX
      apply hX; unfold f29_l1_b
      have hlt : i < c.f1.length := by omega
      rw [if_pos (by simp [toRef]; omega)]
      refine ofO_ix i rfl (by simpa [toRef] using hlt) ?_
      simp only [toRef, List.getElem_map, rf]
      by_cases he : c.f1[i].1 = k
      · rw [if_pos he]; exact h1 i hlt he
      · rw [if_neg he, w64_eq (by omega) (by omega)]
        refine ih (i + 1) (by omega) (by omega) (fun j hj hji => ?_) X hX
        rcases Nat.lt_or_ge j i with h | h
        · exact hp j hj h
        · have : j = i := by omega
          subst this; exact he
  exact key c.f1.length 0 rfl (by omega) (fun j _ hj => by omega)
theorem take_spec {n m : Nat} {c : S62} (hw : WF n m c) {i : Nat} (hi : i < c.f1.length) {Q : S47 → Prop} (h : Q ⟨n, c.f0, (mdel c.f1 c.f1[i].1).map rf, ⟨c.f3, c.f4, c.f5⟩⟩) : f31 (toRef n c) (i : Int) Q := by
  have hl := hw.l1
  have hc := hw.cap
  unfold f31
  refine ofO_cut 0 i rfl rfl (by omega) (by simp [toRef]; omega) ?_
  refine ofO_cut (i + 1) c.f1.length (by rw [w64_eq (by omega) (by omega)]; omega) (by simp [toRef]) (by omega) (by simp [toRef]) ?_
  refine ofO_app (by simp [toRef, reach]; omega) (by simp [toRef, reach]; omega) ?_
  refine ofO_app (by simp [toRef, reach]; omega) (by simp [toRef, reach]; omega) ?_
  rw [mdel_at hi hw.nd] at h
  have ht : (c.f1.map rf).take c.f1.length = c.f1.map rf := List.take_of_length_le (by simp)
  simpa [toRef, ht, List.map_take, List.map_drop] using h
theorem vld_mx {L : Nat} {a b : Int} (h : vld L a b = true) : mx a b = a + b := by
  simp [vld, disp] at h; unfold mx; split <;> omega
theorem ropen_spec {n m : Nat} {c : S62} (hw : WF n m c) {v : S36} (hv : vld (n + 1) v.f0 v.f1 = true) {Q : Bool → Prop} (h : Q (openB c v)) : f30 (toRef n c) v Q := by
  unfold f30
  have := vld_lt hv
  have hl := hw.len
  have hn := hw.nle
  rw [vld_mx hv]
  refine ofO_ix (v.f0 + v.f1).toNat (by omega) (by simp [toRef]; omega) ?_
  unfold openB at h
  rwa [List.getD_eq_getElem?_getD, List.getElem?_eq_getElem (by omega)] at h
theorem vld_no {n : Nat} {a b : Int} (h : a < 0 ∨ b < 0 ∨ a > n ∨ b > n) : vld (n + 1) a b = false := by
  rw [Bool.eq_false_iff]; intro hv; simp [vld, disp] at hv; omega
theorem vld_eq {n : Nat} {a b : Int} (h : ¬ (a < 0 ∨ b < 0 ∨ a > n ∨ b > n)) : vld (n + 1) a b = !((a == 0) == (b == 0)) := by
  have e : vld (n + 1) a b = true ↔ (!((a == 0) == (b == 0))) = true := by
    simp only [vld, disp, Bool.or_eq_true, Bool.and_eq_true, beq_iff_eq, decide_eq_true_eq]
    have ea : ∀ y : Int, y ≠ 0 → (y == 0) = false := fun y hy => by simpa using hy
    by_cases ha : a = 0
    · by_cases hb : b = 0
      · simp [ha, hb]
      · simp [ha, ea b hb]; omega
    · by_cases hb : b = 0
      · simp [hb, ea a ha]; omega
      · simp [ea a ha, ea b hb]; omega
  exact Bool.eq_iff_iff.2 e
theorem rdo_spec {n m : Nat} {c : S62} (hw : WF n m c) (hm : m ≤ 1000000) {x : S40} (h0 : 0 ≤ x.f0) (h5 : x.f0 ≤ 5) {Q : Int × S36 × Int × S47 → Prop}
    (h : Q ((doR c x).1, (doR c x).2.1, (doR c x).2.2.1, toRef n (doR c x).2.2.2)) : f16 (toRef n c) x Q := by
  have hlen := hw.len
  have hs := hw.small
  have hz := hw.z
  have hsum := hw.sum
  have p4 := hw.pos4
  have p5 := hw.pos5
  unfold doR at h
  unfold f16
  by_cases k0 : x.f0 = 0
  · rw [if_pos k0] at h ⊢
    have key : f16_j1 (toRef n c) x Q x zC zC (!(vld (n + 1) x.f1 x.f2)) := by
      unfold f16_j1
      by_cases hv : vld (n + 1) x.f1 x.f2 = true
      · rw [hv, if_neg (by simp)]
        exact put_spec hw hm hv h
      · rw [if_pos (by simpa using hv)]
        unfold sendR at h
        rw [hlen, if_neg hv] at h; exact h
    have bad : (x.f1 < 0 ∨ x.f2 < 0 ∨ x.f1 > n ∨ x.f2 > n) → f16_j1 (toRef n c) x Q x zC zC true := fun hb => by
      rwa [vld_no hb] at key
    split
    · exact bad (by omega)
    split
    · exact bad (by omega)
    split
    · rename_i hh; exact bad (by simp only [toRef] at hh; omega)
    split
    · rename_i hh; exact bad (by simp only [toRef] at hh; omega)
    · rename_i g1 g2 g3 g4
      simp only [toRef] at g3 g4
      rw [vld_eq (by omega), Bool.not_not] at key
      exact key
  rw [if_neg k0] at h ⊢
  by_cases k5 : x.f0 = 5
  · rw [if_pos k5]
    rw [if_neg (by omega), if_neg (by omega), if_neg (by omega), if_neg (by omega)] at h
    have key : f16_j2 (toRef n c) x Q x zC zC (!(disp (n + 1) x.f1)) := by
      unfold f16_j2
      unfold cutR at h
      rw [hlen] at h
      by_cases hd : disp (n + 1) x.f1 = true
      · rw [hd, if_neg (by simp)]
        rw [if_pos hd] at h
        have h1 : 1 ≤ x.f1 ∧ x.f1 < ((n + 1 : Nat) : Int) := by simpa [disp] using hd
        exact ofO_ix x.f1.toNat (by omega) (by simp only [toRef]; omega) h
      · rw [if_pos (by simpa using hd)]
        rw [if_neg hd] at h; exact h
    split
    · rename_i hh
      rwa [show disp (n + 1) x.f1 = false by simp [disp]; omega] at key
    · rename_i hh
      have : decide (x.f1 > (toRef n c).f0) = !(disp (n + 1) x.f1) := by
        simp only [toRef, disp]
        rw [show decide (1 ≤ x.f1) = true by simp; omega, Bool.true_and, ← decide_not]
        exact decide_eq_decide.2 (by omega)
      rw [this]; exact key
  rw [if_neg k5]
  refine find_spec hw (fun i hi he => ?_) (fun hn => ?_)
  · rw [if_neg (by omega)]
    refine ofO_ix i rfl (by simpa [toRef] using hi) ?_
    have hg : mget c.f1 x.f1 = some c.f1[i].2 := by rw [← he]; exact mget_at hi hw.nd
    have hfr := hw.frm _ (List.getElem_mem hi)
    have e0 : ((toRef n c).f2[i]'(by simpa [toRef] using hi)).f1 = c.f1[i].2 := by simp [toRef, rf]
    have e1 : ((toRef n c).f2[i]'(by simpa [toRef] using hi)).f0 = x.f1 := by simp [toRef, rf, he]
    rw [e0]
    by_cases k1 : x.f0 = 1
    · rw [if_pos k1] at h ⊢
      refine ropen_spec hw hfr.1 ?_
      unfold delivR at h
      rw [hg] at h
      simp only [] at h
      by_cases ho : openB c c.f1[i].2 = true
      · rw [if_pos ho] at h ⊢
        refine take_spec hw hi ?_
        simp only []
        rw [w64_eq (by omega) (by omega), he]; exact h
      · rw [if_neg ho] at h ⊢; exact h
    rw [if_neg k1] at h ⊢
    by_cases k2 : x.f0 = 2
    · rw [if_pos k2] at h ⊢
      unfold dropR at h
      rw [hg] at h
      simp only [] at h
      refine take_spec hw hi ?_
      simp only []
      rw [w64_eq (by omega) (by omega), he]; exact h
    rw [if_neg k2] at h ⊢
    by_cases k3 : x.f0 = 3
    · rw [if_pos k3] at h ⊢
      unfold repR at h
      rw [hg] at h
      exact put_spec hw hm hfr.1 h
    rw [if_neg k3] at h ⊢
    by_cases k4 : x.f0 = 4
    · rw [if_pos k4] at h ⊢
      unfold damR at h
      rw [hg] at h
      simp only [] at h
      have key : f16_j3 (toRef n c) x Q x zC zC i c.f1[i].2 (decide (x.f2 < 0 ∨ x.f2 ≥ (c.f1[i].2.f2.size : Int))) := by
        unfold f16_j3
        by_cases hb : x.f2 < 0 ∨ x.f2 ≥ (c.f1[i].2.f2.size : Int)
        · rw [if_pos (by simpa using hb)]
          rw [if_pos hb] at h; exact h
        · rw [if_neg (by simpa using hb)]
          rw [if_neg hb] at h
          have hsz := hfr.2
          have d0 : scut c.f1[i].2.f2 0 x.f2 = some (c.f1[i].2.f2.extract 0 x.f2.toNat) := by unfold scut; rw [if_pos (by omega)]; rfl
          have d1 : scut c.f1[i].2.f2 (w64 (x.f2 + 1)) (c.f1[i].2.f2.size : Int) = some (c.f1[i].2.f2.extract (x.f2.toNat + 1) c.f1[i].2.f2.size) := by
            rw [w64_eq (by omega) (by omega)]; unfold scut; rw [if_pos (by omega)]
            rw [show (x.f2 + 1).toNat = x.f2.toNat + 1 by omega]; simp
          have l1 : (lit [u8 x.f4]).size = 1 := rfl
          have d2 : scat (c.f1[i].2.f2.extract 0 x.f2.toNat) (lit [u8 x.f4]) = some (c.f1[i].2.f2.extract 0 x.f2.toNat ++ lit [u8 x.f4]) := by
            unfold scat; rw [if_pos (by simp [ByteArray.size_extract, l1, reach]; omega)]
          have d3 : scat (c.f1[i].2.f2.extract 0 x.f2.toNat ++ lit [u8 x.f4]) (c.f1[i].2.f2.extract (x.f2.toNat + 1) c.f1[i].2.f2.size) = some (dmg c.f1[i].2.f2 x.f2 x.f4) := by
            unfold scat; rw [if_pos (by simp [ByteArray.size_extract, ByteArray.size_append, l1, reach]; omega)]; rfl
          refine ⟨_, d0, _, d1, _, d2, _, d3, ofO_ix i rfl (by simpa [toRef] using hi) ?_⟩
          rw [e0, e1]
          have hset : (mset c.f1 x.f1 ⟨c.f1[i].2.f0, c.f1[i].2.f1, dmg c.f1[i].2.f2 x.f2 x.f4⟩).map rf = (c.f1.map rf).set i ⟨x.f1, ⟨c.f1[i].2.f0, c.f1[i].2.f1, dmg c.f1[i].2.f2 x.f2 x.f4⟩⟩ := by
            rw [← he, mset_at hi hw.nd, List.map_set]; rfl
          simp only [toRef] at h ⊢
          rw [hset] at h
          exact h
      split
      · rename_i hh
        rwa [show decide (x.f2 < 0 ∨ x.f2 ≥ (c.f1[i].2.f2.size : Int)) = true by simp [hh]] at key
      · rename_i hh
        rwa [show decide (x.f2 < 0 ∨ x.f2 ≥ (c.f1[i].2.f2.size : Int)) = decide (x.f2 ≥ (c.f1[i].2.f2.size : Int)) by simp [hh]] at key
    · omega
  · rw [if_pos (by omega)]
    have hg : mget c.f1 x.f1 = none := mget_none hn
    unfold delivR dropR repR damR at h
    rw [hg] at h
    by_cases k1 : x.f0 = 1
    · rw [if_pos k1] at h; exact h
    rw [if_neg k1] at h
    by_cases k2 : x.f0 = 2
    · rw [if_pos k2] at h; exact h
    rw [if_neg k2] at h
    by_cases k3 : x.f0 = 3
    · rw [if_pos k3] at h; exact h
    rw [if_neg k3] at h
    by_cases k4 : x.f0 = 4
    · rw [if_pos k4] at h; exact h
    · omega

/-! ### 3. The reference's lists -/

theorem rpend_spec {n m : Nat} {c : S62} (hw : WF n m c) {Q : List Int → Prop} (h : Q c.f2) : f18 (toRef n c) Q := by
  have hl := hw.l1
  have hc := hw.cap
  unfold f18
  have key : ∀ d i, d = c.f1.length - i → i ≤ c.f1.length → f18_l1 (toRef n c) (fun o => Q o) ((c.f1.take i).map (·.1)) (i : Int) := by
    intro d
    induction d with
    | zero =>
      intro i hd hi X hX
      apply hX; unfold f18_l1_b
      rw [if_neg (by simp [toRef]; omega), List.take_of_length_le (by omega), hw.keys]; exact h
    | succ d ih =>
      intro i hd hi X hX
      apply hX; unfold f18_l1_b
      have hlt : i < c.f1.length := by omega
      rw [if_pos (by simp [toRef]; omega)]
      refine ofO_ix i rfl (by simpa [toRef] using hlt) (ofO_app (by simp [reach]; omega) (by simp [reach]; omega) ?_)
      rw [w64_eq (by omega) (by omega)]
      have := ih (i + 1) (by omega) (by omega) X hX
      rw [List.take_succ_eq_append_getElem hlt, List.map_append] at this
      simpa [toRef, rf] using this
  exact key c.f1.length 0 rfl (by omega)
theorem rready_spec {n m : Nat} {c : S62} (hw : WF n m c) {Q : List Int → Prop} (h : Q (readyR c)) : f20 (toRef n c) Q := by
  have hl := hw.l1
  have hc := hw.cap
  unfold f20
  have key : ∀ d i, d = c.f1.length - i → i ≤ c.f1.length → f20_l1 (toRef n c) (fun o => Q o) (((c.f1.take i).filter fun p => openB c p.2).map (·.1)) (i : Int) := by
    intro d
    induction d with
    | zero =>
      intro i hd hi X hX
      apply hX; unfold f20_l1_b
      rw [if_neg (by simp [toRef]; omega), List.take_of_length_le (by omega)]; exact h
    | succ d ih =>
      intro i hd hi X hX
      apply hX; unfold f20_l1_b
      have hlt : i < c.f1.length := by omega
      have hle : ((c.f1.take i).filter fun p => openB c p.2).length ≤ i := Nat.le_trans (List.length_filter_le _ _) (by simp; omega)
      rw [if_pos (by simp [toRef]; omega)]
      refine ofO_ix i rfl (by simpa [toRef] using hlt) ?_
      have e0 : ((toRef n c).f2[i]'(by simpa [toRef] using hlt)).f1 = c.f1[i].2 := by simp [toRef, rf]
      have e1 : ((toRef n c).f2[i]'(by simpa [toRef] using hlt)).f0 = c.f1[i].1 := by simp [toRef, rf]
      rw [e0]
      refine ropen_spec hw (hw.frm _ (List.getElem_mem hlt)).1 ?_
      have := ih (i + 1) (by omega) (by omega) X hX
      rw [List.take_succ_eq_append_getElem hlt, List.filter_append, List.map_append] at this
      by_cases ho : openB c c.f1[i].2 = true
      · rw [if_pos ho]
        refine ofO_ix i rfl (by simpa [toRef] using hlt) (ofO_app (by simp [reach]; omega) (by simp [reach]; omega) ?_)
        unfold f20_j2
        rw [w64_eq (by omega) (by omega), e1]
        simpa [ho] using this
      · rw [if_neg ho]
        unfold f20_j2
        rw [w64_eq (by omega) (by omega)]
        simpa [ho] using this
  exact key c.f1.length 0 rfl (by omega)

/-! ### 4. The law -/

theorem plays_loop {list : List S40} (hs : smallB list 60 = true) {Q : Bool → Prop} (hq : Q true) {n : Nat} :
    ∀ (d i : Nat) (c : S62), d = list.length - i → i ≤ list.length → WF n i c → f4_l2 list (Q true) Q (some c) (some (toRef n c)) (i : Int) := by
  have hs' := small_of hs
  intro d
  induction d with
  | zero =>
    intro i c hd hi hw X hX
    apply hX; unfold f4_l2_b
    rw [if_neg (by omega)]; exact hq
  | succ d ih =>
    intro i c hd hi hw X hX
    apply hX; unfold f4_l2_b
    have hlt : i < list.length := by omega
    rw [if_pos (by omega)]
    refine ofO_ix i rfl hlt ?_
    unfold onPtr
    simp only []
    have hx := hs'.2 _ (List.getElem_mem hlt)
    have hw' := do_wf hw (x := list[i]) (by omega)
    have hcap := hw'.cap
    refine do_spec hw (by omega) (ofO_ix i rfl hlt (rdo_spec hw (by omega) hx.2.1 hx.2.2 (counts_spec ?_)))
    rw [if_pos rfl, if_pos (by simp), if_pos rfl]
    refine pending_spec hw' (rpend_spec hw' (same_spec (by omega) ?_))
    rw [if_pos (by simp)]
    refine ready_spec hw' (rready_spec hw' (same_spec ?_ ?_))
    · unfold readyR
      have := hw'.l1
      have := List.length_filter_le (fun p : Int × S36 => openB (doR c list[i]).2.2.2 p.2) (doR c list[i]).2.2.2.f1
      simp only [List.length_map]; omega
    rw [if_pos (by simp)]
    unfold f4_j3
    rw [if_neg (by simp [toRef]), w64_eq (by omega) (by omega)]
    exact ih (i + 1) _ (by omega) (by omega) hw' X hX
theorem plays_pure : PureChannelPlays := by
  intro x0 x1 _ _
  unfold f4
  refine awake_ok ?_
  rw [if_pos rfl]
  have yes : f4_j1 x0 x1 (fun r => r = true) true := by unfold f4_j1; rw [if_pos rfl]
  split
  · exact yes
  split
  · exact yes
  refine small_spec (by omega) ?_
  by_cases hs : smallB x1 60 = true
  · rw [hs]
    unfold f4_j1
    rw [if_neg (by simp)]
    refine new_spec ?_
    rw [if_pos (show 1 ≤ x0 ∧ x0 ≤ 16 by omega)]
    dsimp only
    rw [if_pos rfl]
    obtain ⟨n, rfl⟩ : ∃ n : Nat, x0 = n := ⟨x0.toNat, by omega⟩
    unfold f14
    refine ofO_mk (n + 1) (by rw [w64_eq (by omega) (by omega)]; omega) (by unfold reach; omega) (by unfold reach; omega) ?_
    exact plays_loop (Q := fun r => r = true) (n := n) hs rfl x1.length 0 ⟨List.replicate (n + 1) false, [], [], 0, 0, 0⟩ rfl (by omega) (new_wf (n := n) (by omega))
  · rw [show smallB x1 60 = false by simpa using hs]; exact yes
end Go.Proofs.Ytcnlbnccghjeaaa.W
