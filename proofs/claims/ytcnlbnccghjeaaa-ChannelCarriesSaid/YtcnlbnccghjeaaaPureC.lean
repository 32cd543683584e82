/- The channel, plainly: what can be delivered, what is alike, and the law's own first test. Conditions: none. -/
import Derived.Test.YtcnlbnccghjeaaaPureB
set_option linter.unusedVariables false
set_option linter.unusedSimpArgs false
namespace Go.Proofs.Ytcnlbnccghjeaaa.W
open Go

/-! ### 1. Filters -/

theorem index_loop {xs : List Int} {g : Int → M Bool} {p : Int → Bool} {k1 : Prop} {Q : Int → Prop} (hg : ∀ x ∈ xs, ∀ R : Bool → Prop, R (p x) → g x R) (hl : xs.length ≤ 1000000)
    (h1 : ∀ i (h : i < xs.length), p xs[i] = true → (∀ j (h : j < xs.length), j < i → p xs[j] = false) → Q i) (h2 : (∀ x ∈ xs, p x = false) → k1) :
    ∀ d i, d = xs.length - i → i ≤ xs.length → (∀ j (h : j < xs.length), j < i → p xs[j] = false) → f37_l1 xs g xs.length k1 Q (i : Int) := by
  intro d
  induction d with
  | zero =>
    intro i hd hi hp X hX
    apply hX; unfold f37_l1_b
    rw [if_neg (by omega)]
    refine h2 fun x hx => ?_
    obtain ⟨j, hj, rfl⟩ := List.mem_iff_getElem.1 hx
    exact hp j hj (by omega)
  | succ d ih =>
    intro i hd hi hp X hX
    apply hX; unfold f37_l1_b
    rw [if_pos (by omega)]
    refine ofO_ix i rfl (by omega) (hg _ (List.getElem_mem _) _ ?_)
    by_cases hc : p (xs[i]'(by omega)) = true
    · rw [if_pos hc]; exact h1 i (by omega) hc hp
    · rw [if_neg hc]
      rw [w64_eq (by omega) (by omega)]
      refine ih (i + 1) (by omega) (by omega) (fun j hj hji => ?_) X hX
      rcases Nat.lt_or_ge j i with h | h
      · exact hp j hj h
      · have : j = i := by omega
        subst this; simpa using hc
theorem filter_take_succ {p : Int → Bool} {xs : List Int} {j : Nat} (hj : j < xs.length) : (xs.take (j + 1)).filter p = (xs.take j).filter p ++ (if p xs[j] = true then [xs[j]] else []) := by
  rw [List.take_succ_eq_append_getElem hj, List.filter_append]
  congr 1
  by_cases h : p xs[j] = true <;> simp [h]
theorem df_loop {xs : List Int} {g : Int → M Bool} {p : Int → Bool} {Q : List Int → Prop} (hg : ∀ x ∈ xs, ∀ R : Bool → Prop, R (p x) → g x R) (hl : xs.length ≤ 1000000)
    (h : Q (xs.filter fun x => !(p x))) :
    ∀ d j (s : List Int) (i : Nat), d = xs.length - j → j ≤ xs.length → i ≤ j → s.length = xs.length → s.take i = (xs.take j).filter (fun x => !(p x)) → s.drop j = xs.drop j →
      f32_l1 g (fun s i => ofO (cut s i (s.length : Int)) fun r37 => ofO (cut (clr s i (0 : Int)) 0 i) fun r46 => Q r46) s (i : Int) (j : Int) := by
  intro d
  induction d with
  | zero =>
    intro j s i hd hj hij hs h1 h2 X hX
    apply hX; unfold f32_l1_b
    rw [if_neg (by omega)]
    refine ofO_cut i s.length rfl rfl (by omega) (Nat.le_refl _) (ofO_cut 0 i rfl rfl (by omega) ?_ ?_)
    · rw [clr_length _ _ _ (by simp; omega)]; omega
    · have : (clr s (i : Int) 0).take i = s.take i := by
        unfold clr
        rw [show (i : Int).toNat = i by simp, List.take_append_of_le_length (by simp; omega), List.take_take, Nat.min_self]
      rw [this, h1, List.take_of_length_le (by omega)]; exact h
  | succ d ih =>
    intro j s i hd hj hij hs h1 h2 X hX
    apply hX; unfold f32_l1_b
    have hlt : j < xs.length := by omega
    rw [if_pos (by omega)]
    have hget : s[j]'(by omega) = xs[j] := by
      have e1 : (s.drop j)[0]'(by simp; omega) = s[j]'(by omega) := by simp
      have e2 : (xs.drop j)[0]'(by simp; omega) = xs[j] := by simp
      rw [← e1, ← e2]; simp only [h2]
    have hd2 : s.drop (j + 1) = xs.drop (j + 1) := by
      rw [← List.drop_drop, ← List.drop_drop, h2]
    refine ofO_ix j rfl (by omega) ?_
    rw [hget]
    refine hg _ (List.getElem_mem _) _ ?_
    by_cases hc : p xs[j] = true
    · rw [if_pos hc]
      unfold f32_j2
      rw [w64_eq (by omega) (by omega)]
      refine ih (j + 1) s i (by omega) (by omega) (by omega) hs ?_ hd2 X hX
      rw [h1, filter_take_succ hlt]; simp [hc]
    · rw [if_neg hc]
      refine ofO_ix i rfl (by omega) ?_
      unfold f32_j2
      rw [w64_eq (by omega) (by omega), w64_eq (by omega) (by omega)]
      refine ih (j + 1) (s.set i xs[j]) (i + 1) (by omega) (by omega) (by omega) (by simpa using hs) ?_ ?_ X hX
      · rw [filter_take_succ hlt, ← h1]
        rw [List.take_succ_eq_append_getElem (by simp; omega)]
        simp [hc, List.take_set_of_le]
      · rw [List.drop_set_of_lt (by omega), hd2]
theorem delf_spec {xs : List Int} {g : Int → M Bool} {p : Int → Bool} {Q : List Int → Prop} (hg : ∀ x ∈ xs, ∀ R : Bool → Prop, R (p x) → g x R) (hl : xs.length ≤ 1000000)
    (h : Q (xs.filter fun x => !(p x))) : f32 xs g Q := by
  unfold f32 f37
  refine index_loop (p := p) hg hl (fun i hi hpi hpj => ?_) (fun hall => ?_) xs.length 0 rfl (by omega) (fun j _ hj => by omega)
  · rw [if_neg (by omega)]
    rw [w64_eq (by omega) (by omega)]
    refine df_loop hg hl h (xs.length - (i + 1)) (i + 1) xs i rfl (by omega) (by omega) rfl ?_ rfl
    rw [filter_take_succ hi]
    simp only [hpi, Bool.not_true, Bool.false_eq_true, if_false, List.append_nil]
    refine (List.filter_eq_self.2 fun x hx => ?_).symm
    obtain ⟨j, hj, rfl⟩ := List.mem_iff_getElem.1 hx
    simp at hj
    simp [hpj j (by omega) (by omega)]
  · dsimp only
    rw [if_pos rfl]
    rwa [List.filter_eq_self.2 (fun x hx => by simp [hall x hx])] at h
theorem ready_spec {n m : Nat} {c : S62} (hw : WF n m c) {Q : List Int → Prop} (h : Q (readyR c)) : f19 c Q := by
  have hc := hw.cap
  unfold f19
  refine ofO_mk c.f2.length rfl (by unfold reach; omega) (by unfold reach; omega) ?_
  rw [show cpy (List.replicate c.f2.length (0 : Int)) c.f2 = c.f2 by unfold cpy; simp]
  refine delf_spec (p := fun k => match mget c.f1 k with | some v => !(openB c v) | none => true) (fun x hx R hR => ?_) (by omega) ?_
  · unfold f33 onPtr
    simp only []
    cases hg : mget c.f1 x with
    | none =>
      exfalso
      rw [← hw.keys] at hx
      obtain ⟨v, hv⟩ := mget_iff.2 hx
      rw [hg] at hv; cases hv
    | some v =>
      refine look_some hg ?_
      refine open_spec hw (hw.frm _ (mget_mem hg)).1 ?_
      simp only [hg] at hR
      exact hR
  · have : (c.f2.filter fun x => !(match mget c.f1 x with | some v => !(openB c v) | none => true)) = readyR c := by
      unfold readyR
      rw [← hw.keys, List.filter_map]
      congr 1
      refine List.filter_congr fun q hq => ?_
      simp [mget_of_mem hw.nd (show (q.1, q.2) ∈ c.f1 from hq)]
    rw [this]; exact h

/-! ### 2. Likeness -/

theorem same_loop {xs ys : List Int} (he : xs.length = ys.length) (hl : xs.length ≤ 1000000) {Q : Bool → Prop} (h : Q (decide (xs = ys))) :
    ∀ d i, d = xs.length - i → i ≤ xs.length → (∀ j (h : j < xs.length), j < i → xs[j] = ys[j]'(he ▸ h)) → f17_l1 xs ys (Q true) Q (i : Int) := by
  intro d
  induction d with
  | zero =>
    intro i hd hi hp X hX
    apply hX; unfold f17_l1_b
    rw [if_neg (by omega)]
    have : xs = ys := List.ext_getElem he fun j h1 h2 => hp j h1 (by omega)
    simpa [this] using h
  | succ d ih =>
    intro i hd hi hp X hX
    apply hX; unfold f17_l1_b
    rw [if_pos (by omega)]
    refine ofO_ix i rfl (by omega) (ofO_ix i rfl (by omega) ?_)
    by_cases hc : xs[i]'(by omega) = ys[i]'(by omega)
    · rw [if_pos hc, w64_eq (by omega) (by omega)]
      refine ih (i + 1) (by omega) (by omega) (fun j hj hji => ?_) X hX
      rcases Nat.lt_or_ge j i with h | h
      · exact hp j hj h
      · have : j = i := by omega
        subst this; exact hc
    · rw [if_neg hc]
      have : xs ≠ ys := fun e => hc (by simp only [e])
      simpa [this] using h
theorem same_spec {xs ys : List Int} (hl : xs.length ≤ 1000000) {Q : Bool → Prop} (h : Q (decide (xs = ys))) : f17 xs ys Q := by
  unfold f17
  by_cases he : (xs.length : Int) = (ys.length : Int)
  · rw [if_pos he]
    exact same_loop (by omega) hl h xs.length 0 rfl (by omega) (fun j _ hj => by omega)
  · rw [if_neg he]
    have : xs ≠ ys := fun e => he (by rw [e])
    simpa [this] using h
def smallB (xs : List S40) (n : Int) : Bool := decide ((xs.length : Int) ≤ n) && xs.all fun x => decide (x.f3.size ≤ 100) && decide (0 ≤ x.f0) && decide (x.f0 ≤ 5)
theorem small_spec {xs : List S40} {n : Int} (hn : n ≤ 1000000) {Q : Bool → Prop} (h : Q (smallB xs n)) : f13 xs n Q := by
  unfold f13
  by_cases hl : (xs.length : Int) > n
  · rw [if_pos hl]; rwa [show smallB xs n = false by simp [smallB]; omega] at h
  rw [if_neg hl]
  have key : ∀ d i, d = xs.length - i → i ≤ xs.length → (∀ j (h : j < xs.length), j < i → xs[j].f3.size ≤ 100 ∧ 0 ≤ xs[j].f0 ∧ xs[j].f0 ≤ 5) → f13_l1 xs (Q true) Q (i : Int) := by
    intro d
    induction d with
    | zero =>
      intro i hd hi hp X hX
      apply hX; unfold f13_l1_b
      rw [if_neg (by omega)]
      have : smallB xs n = true := by
        simp only [smallB, Bool.and_eq_true, decide_eq_true_eq, List.all_eq_true]
        refine ⟨by omega, fun x hx => ?_⟩
        obtain ⟨j, hj, rfl⟩ := List.mem_iff_getElem.1 hx
        have := hp j hj (by omega)
        omega
      rwa [this] at h
    | succ d ih =>
      intro i hd hi hp X hX
      apply hX; unfold f13_l1_b
      rw [if_pos (by omega)]
      have hlt : i < xs.length := by omega
      have bad : ¬ (xs[i].f3.size ≤ 100 ∧ 0 ≤ xs[i].f0 ∧ xs[i].f0 ≤ 5) → Q false := fun hb => by
        have : smallB xs n = false := by
          rw [Bool.eq_false_iff]; intro hs
          simp only [smallB, Bool.and_eq_true, decide_eq_true_eq, List.all_eq_true] at hs
          have := hs.2 _ (List.getElem_mem hlt)
          exact hb (by omega)
        rwa [this] at h
      refine ofO_ix i rfl hlt ?_
      split
      · unfold f13_j2; rw [if_pos rfl]; exact bad (by omega)
      refine ofO_ix i rfl hlt ?_
      split
      · unfold f13_j2; rw [if_pos rfl]; exact bad (by omega)
      refine ofO_ix i rfl hlt ?_
      unfold f13_j2
      by_cases h5 : xs[i].f0 > 5
      · rw [if_pos (by simpa using h5)]; exact bad (by omega)
      · rw [if_neg (by simpa using h5), w64_eq (by omega) (by omega)]
        refine ih (i + 1) (by omega) (by omega) (fun j hj hji => ?_) X hX
        rcases Nat.lt_or_ge j i with h | h
        · exact hp j hj h
        · have : j = i := by omega
          subst this; omega
  exact key xs.length 0 rfl (by omega) (fun j _ hj => by omega)
theorem small_of {xs : List S40} {n : Int} (h : smallB xs n = true) : (xs.length : Int) ≤ n ∧ ∀ x ∈ xs, x.f3.size ≤ 100 ∧ 0 ≤ x.f0 ∧ x.f0 ≤ 5 := by
  simp only [smallB, Bool.and_eq_true, decide_eq_true_eq, List.all_eq_true] at h
  exact ⟨h.1, fun x hx => by have := h.2 x hx; omega⟩

/-! ### 3. The first test -/

def a0 : S62 := ⟨List.replicate 3 false, [], [], 0, 0, 0⟩
def a1 : S62 := (sendR a0 0 1 (lit [120])).2.2
def a2 : S62 := (sendR a1 2 0 (lit [121, 122])).2.2
def a3 : S62 := (sendR a2 1 2 (lit [122])).2.2
def a4 : S62 := (cutR a3 1 true).2
def a5 : S62 := (delivR a4 0).2.2
def a6 : S62 := (repR a5 1).2.2
def a7 : S62 := (damR a6 1 0 113).2
def a8 : S62 := (delivR a7 2).2.2
theorem awake_ok {Q : Bool → Prop} (h : Q true) : f9 Q := by
  have w0 : WF 2 0 a0 := new_wf (by decide)
  have w1 : WF 2 1 a1 := send_wf w0 (by decide)
  have w2 : WF 2 2 a2 := send_wf w1 (by decide)
  have w3 : WF 2 3 a3 := send_wf w2 (by decide)
  have w4 : WF 2 3 a4 := cut_wf w3
  have w5 : WF 2 3 a5 := deliv_wf w4
  have w6 : WF 2 4 a6 := rep_wf w5
  have w7 : WF 2 4 a7 := dam_wf w6
  have w8 : WF 2 4 a8 := deliv_wf w7
  unfold f9
  refine new_spec ?_
  rw [if_pos (show (1 : Int) ≤ 2 ∧ (2 : Int) ≤ 16 by decide)]
  dsimp only
  rw [if_pos rfl]
  unfold onPtr f9_j1
  dsimp only
  rw [if_neg (by decide)]
  unfold onPtr
  simp only []
  refine send_spec w0 (by decide) ?_
  refine send_spec w1 (by decide) ?_
  refine send_spec w2 (by decide) ?_
  refine cut_spec w3 ?_
  refine deliv_spec w4 (by decide) ?_
  refine rep_spec w5 (by decide) ?_
  refine dam_spec w6 ?_
  refine deliv_spec w7 (by decide) ?_
  refine counts_spec ?_
  iterate 12 rw [if_pos (by decide +kernel)]
  refine pending_spec w8 (same_spec (by decide +kernel) ?_)
  rw [if_pos (by decide +kernel)]
  refine ready_spec w8 (same_spec (by decide +kernel) ?_)
  iterate 4 rw [if_pos (by decide +kernel)]
  refine drop_spec w8 (by decide) ?_
  rw [show (((dropR a8 0).1 == 0) = true) by decide +kernel]
  exact h
end Go.Proofs.Ytcnlbnccghjeaaa.W
