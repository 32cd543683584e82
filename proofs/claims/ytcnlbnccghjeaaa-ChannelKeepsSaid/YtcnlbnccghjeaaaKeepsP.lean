/- What the channel keeps, plainly: the numbers under way, those delivered and those dropped add up. Conditions: none. -/
import Derived.Test.YtcnlbnccghjeaaaLChannelKeeps
import Derived.Test.YtcnlbnccghjeaaaPureC
set_option linter.unusedVariables false
set_option linter.unusedSimpArgs false
namespace Go.Proofs.Ytcnlbnccghjeaaa.W
open Go
/-- The next number after an operation. -/
theorem do_next {n m : Nat} {c : S62} (hw : WF n m c) {x : S40} :
    ((doR c x).2.2.1 = 0 ∧ (x.f0 = 0 ∨ x.f0 = 3) → (doR c x).1 = c.f3 ∧ (doR c x).2.2.2.f3 = c.f3 + 1) ∧ (¬ ((doR c x).2.2.1 = 0 ∧ (x.f0 = 0 ∨ x.f0 = 3)) → (doR c x).2.2.2.f3 = c.f3) := by
  have hs : ∀ a b fr, ((sendR c a b fr).2.1 = 0 → (sendR c a b fr).1 = c.f3 ∧ (sendR c a b fr).2.2.f3 = c.f3 + 1) ∧ ((sendR c a b fr).2.1 ≠ 0 → (sendR c a b fr).2.2.f3 = c.f3) := fun a b fr => by
    unfold sendR
    split
    · split <;> simp
    · simp
  unfold doR
  split
  · rename_i h0
    have := hs x.f1 x.f2 x.f3
    exact ⟨fun h => this.1 h.1, fun h => this.2 (fun e => h ⟨e, Or.inl h0⟩)⟩
  rename_i h0
  split
  · rename_i h1
    refine ⟨fun h => by omega, fun _ => ?_⟩
    unfold delivR; split
    · split <;> rfl
    · rfl
  split
  · refine ⟨fun h => by omega, fun _ => ?_⟩
    unfold dropR; split <;> rfl
  split
  · rename_i h3
    unfold repR
    split
    · rename_i v hv
      have := hs v.f0 v.f1 v.f2
      exact ⟨fun h => this.1 h.1, fun h => this.2 (fun e => h ⟨e, Or.inr h3⟩)⟩
    · exact ⟨fun h => by simp at h, fun _ => rfl⟩
  rename_i h3
  split
  · refine ⟨fun h => by omega, fun _ => ?_⟩
    unfold damR; split
    · split <;> rfl
    · rfl
  · refine ⟨fun h => by omega, fun _ => ?_⟩
    unfold cutR; split <;> rfl
/-- The walk over the numbers under way: they lie in order, and those ready are met in turn. -/
theorem keep_loop {list : List S40} {c : S62} {nx i : Int} {p : List Int} {g : Int → Bool} {k1 : Int → Prop} {Q : Bool → Prop} (hp : p.Pairwise (· < ·)) (hr : ∀ x ∈ p, 0 ≤ x ∧ x < nx) (hl : p.length ≤ 1000000)
    (hk : k1 ((p.filter g).length : Int)) :
    ∀ d j, d = p.length - j → j ≤ p.length → f5_l6 list c nx i p (p.filter g) k1 Q (((p.take j).filter g).length : Int) (j : Int) := by
  intro d
  induction d with
  | zero =>
    intro j hd hj X hX
    apply hX; unfold f5_l6_b f5_j7
    rw [if_neg (by omega), List.take_of_length_le (by omega)]; exact hk
  | succ d ih =>
    intro j hd hj X hX
    apply hX; unfold f5_l6_b f5_j7
    have hlt : j < p.length := by omega
    rw [if_pos (by omega)]
    have hrj := hr _ (List.getElem_mem hlt)
    refine ofO_ix j rfl hlt ?_
    rw [if_neg (by omega)]
    refine ofO_ix j rfl hlt ?_
    rw [if_neg (by omega)]
    have hle : ((p.take j).filter g).length ≤ j := Nat.le_trans (List.length_filter_le _ _) (by simp; omega)
    have hst : (p.take (j + 1)).filter g = (p.take j).filter g ++ (if g p[j] = true then [p[j]] else []) := by
      rw [List.take_succ_eq_append_getElem hlt, List.filter_append]
      congr 1
      by_cases h : g p[j] = true <;> simp [h]
    have hsp : p.filter g = (p.take j).filter g ++ (p.drop j).filter g := by
      rw [← List.filter_append, List.take_append_drop]
    have hdr : (p.drop j).filter g = if g p[j] = true then p[j] :: (p.drop (j + 1)).filter g else (p.drop (j + 1)).filter g := by
      rw [List.drop_eq_getElem_cons hlt, List.filter_cons]
    have nxt : ∀ k : Int, k = (((p.take (j + 1)).filter g).length : Int) → X k (w64 ((j : Int) + 1)) := fun k hk' => by
      rw [w64_eq (by omega) (by omega), hk']
      exact ih (j + 1) (by omega) (by omega) X hX
    have key : f5_j8 list c nx i p (p.filter g) Q X (((p.take j).filter g).length : Int) (j : Int) false := by
      unfold f5_j8
      rw [if_neg (by simp)]
      by_cases hg : g p[j] = true
      · rw [if_pos hg] at hdr hst
        have hkl : ((p.take j).filter g).length < (p.filter g).length := by rw [hsp, hdr]; simp
        rw [if_pos (by omega)]
        refine ofO_ix _ rfl hkl (ofO_ix j rfl hlt ?_)
        have he : (p.filter g)[((p.take j).filter g).length]'hkl = p[j] := by
          have : (p.filter g)[((p.take j).filter g).length]? = some p[j] := by
            rw [hsp, hdr, List.getElem?_append_right (Nat.le_refl _)]; simp
          rw [List.getElem?_eq_getElem hkl] at this
          exact Option.some.inj this
        rw [he]
        unfold f5_j9 f5_j10
        rw [if_pos (by simp)]
        refine nxt _ ?_
        rw [hst, w64_eq (by omega) (by omega)]; simp
      · rw [if_neg hg] at hdr hst
        rw [List.append_nil] at hst
        have fin : f5_j9 list c nx i p (p.filter g) X (((p.take j).filter g).length : Int) (j : Int) false := by
          unfold f5_j9 f5_j10
          rw [if_neg (by simp)]
          exact nxt _ (by rw [hst])
        split
        · rename_i hkl
          have hkl' : ((p.take j).filter g).length < (p.filter g).length := by omega
          refine ofO_ix _ rfl hkl' (ofO_ix j rfl hlt ?_)
          have hne : (p.filter g)[((p.take j).filter g).length]'hkl' ≠ p[j] := fun e => by
            have hm := List.getElem_mem hkl'
            rw [e] at hm
            exact hg (List.mem_filter.1 hm).2
          rw [show ((p.filter g)[((p.take j).filter g).length]'hkl' == p[j]) = false by simpa using hne]
          exact fin
        · exact fin
    split
    · rename_i hj0
      have h2 : w64 ((j : Int) - 1) = ((j - 1 : Nat) : Int) := by rw [w64_eq (by omega) (by omega)]; omega
      refine ofO_ix (j - 1) h2 (by omega) (ofO_ix j rfl hlt ?_)
      have := List.pairwise_iff_getElem.1 hp (j - 1) j (by omega) hlt (by omega)
      rw [show decide (p[j - 1]'(by omega) ≥ p[j]) = false by simp; omega]
      exact key
    · exact key
theorem ready_filter {n m : Nat} {c : S62} (hw : WF n m c) : readyR c = c.f2.filter fun k => match mget c.f1 k with | some v => openB c v | none => false := by
  unfold readyR
  rw [← hw.keys, List.filter_map]
  congr 1
  refine List.filter_congr fun q hq => ?_
  simp [mget_of_mem hw.nd (show (q.1, q.2) ∈ c.f1 from hq)]
theorem keeps_loop {list : List S40} (hs : smallB list 60 = true) {Q : Bool → Prop} (hq : Q true) {n : Nat} :
    ∀ d i c, d = list.length - i → i ≤ list.length → WF n i c → f5_l2 list (Q true) Q (some c) c.f3 (i : Int) := by
  have hs' := small_of hs
  intro d
  induction d with
  | zero =>
    intro i c hd hi hw X hX
    apply hX; unfold f5_l2_b
    rw [if_neg (by omega)]; exact hq
  | succ d ih =>
    intro i c hd hi hw X hX
    apply hX; unfold f5_l2_b
    have hlt : i < list.length := by omega
    rw [if_pos (by omega)]
    refine ofO_ix i rfl hlt ?_
    unfold onPtr
    simp only []
    have hx := hs'.2 _ (List.getElem_mem hlt)
    have hn := do_next hw (x := list[i])
    have hw' := do_wf hw (x := list[i]) (by omega)
    refine do_spec hw (by omega) ?_
    generalize hc' : (doR c list[i]).2.2.2 = c' at hn hw' ⊢
    have key : f5_j4 list Q X c' c'.f3 i := by
      unfold f5_j4
      refine pending_spec hw' (ready_spec hw' (counts_spec ?_))
      rw [if_pos rfl]
      have hsum := hw'.sum
      have h4 := hw'.pos4
      have h5 := hw'.pos5
      have hcap := hw'.cap
      have hsm := hw'.small
      unfold f5_j5
      have e : w64 (w64 ((c'.f2.length : Int) + c'.f4) + c'.f5) = c'.f3 := by
        rw [w64_eq (x := (c'.f2.length : Int) + c'.f4) (by omega) (by omega), w64_eq (by omega) (by omega), hsum]
      rw [e, if_neg (by simp), ready_filter hw']
      refine keep_loop hw'.srt hw'.rng (by omega) ?_ c'.f2.length 0 rfl (by omega)
      unfold f5_j11
      rw [if_pos rfl, w64_eq (by omega) (by omega)]
      exact ih (i + 1) c' (by omega) (by omega) hw' X hX
    have yes : (doR c list[i]).2.2.1 = 0 ∧ (list[i].f0 = 0 ∨ list[i].f0 = 3) → f5_j3 list Q X c' c.f3 i (doR c list[i]).1 true := fun h => by
      obtain ⟨e1, e2⟩ := hn.1 h
      unfold f5_j3
      rw [if_pos rfl, if_pos e1, w64_eq (by have := hw.z; omega) (by have := hw.small; omega), ← e2]
      exact key
    have no : ¬ ((doR c list[i]).2.2.1 = 0 ∧ (list[i].f0 = 0 ∨ list[i].f0 = 3)) → f5_j3 list Q X c' c.f3 i (doR c list[i]).1 false := fun h => by
      have e2 := hn.2 h
      unfold f5_j3
      rw [if_neg (by simp), ← e2]
      exact key
    split
    · rename_i he
      refine ofO_ix i rfl hlt ?_
      split
      · rename_i h0; exact yes ⟨he, Or.inl h0⟩
      · rename_i h0
        refine ofO_ix i rfl hlt ?_
        by_cases h3 : list[i].f0 = 3
        · rw [show (list[i].f0 == 3) = true by simpa using h3]; exact yes ⟨he, Or.inr h3⟩
        · rw [show (list[i].f0 == 3) = false by simpa using h3]; exact no (by omega)
    · rename_i he; exact no (fun h => he h.1)
theorem keeps_pure : PureChannelKeeps := by
  intro x0 x1 _ _
  unfold f5
  refine awake_ok ?_
  rw [if_pos rfl]
  refine new_spec ?_
  by_cases h : 1 ≤ x0 ∧ x0 ≤ 16
  · rw [if_pos h]
    dsimp only
    rw [if_pos rfl]
    refine small_spec (by omega) ?_
    unfold f5_j1
    by_cases hs : smallB x1 60 = true
    · rw [hs, if_neg (by simp)]
      exact keeps_loop (Q := fun r => r = true) (n := x0.toNat) hs rfl x1.length 0 ⟨List.replicate (x0.toNat + 1) false, [], [], 0, 0, 0⟩ rfl (by omega) (new_wf (n := x0.toNat) (by omega))
    · rw [if_pos (by simpa using hs)]
  · rw [if_neg h]
    dsimp only
    rw [if_neg (by decide)]
    unfold f5_j1; rw [if_pos rfl]
end Go.Proofs.Ytcnlbnccghjeaaa.W
