/- The channel's bound, plainly: 4096 frames and not one more. Conditions: none. -/
import Derived.Test.YtcnlbnccghjeaaaLChannelFull
import Derived.Test.YtcnlbnccghjeaaaPureC
set_option linter.unusedVariables false
set_option linter.unusedSimpArgs false
namespace Go.Proofs.Ytcnlbnccghjeaaa.W
open Go
theorem mget_app {ν : Type} : ∀ {l : List (Int × ν)} {k : Int} {v : ν} {j : Int}, k ∉ l.map (·.1) → mget (l ++ [(k, v)]) j = if j = k then some v else mget l j
  | [], k, v, j, _ => by
    by_cases h : j = k
    · subst h; simp [mget]
    · have : (k == j) = false := by simpa using fun e => h e.symm
      simp [mget, this, h]
  | (a, u) :: r, k, v, j, hk => by
    simp only [List.map_cons, List.mem_cons, not_or] at hk
    have ih := mget_app (v := v) (j := j) hk.2
    simp only [List.cons_append, mget]
    by_cases h : (a == j) = true
    · have : a = j := by simpa using h
      subst this
      rw [if_pos h, if_pos h, if_neg (fun e => hk.1 e.symm)]
    · rw [if_neg h, if_neg h, ih]
structure Fill (fr : ByteArray) (i : Nat) (c : S62) : Prop where
  wf : WF 1 i c
  off : c.f0 = [false, false]
  len : c.f2.length = i
  nxt : c.f3 = i
  all : ∀ k : Int, 0 ≤ k → k < i → mget c.f1 k = some ⟨0, 1, fr⟩
theorem fill_send {fr : ByteArray} (hf : fr.size ≤ 20) {i : Nat} {c : S62} (h : Fill fr i c) (hi : i < 4096) : (sendR c 0 1 fr).1 = i ∧ (sendR c 0 1 fr).2.1 = 0 ∧ Fill fr (i + 1) (sendR c 0 1 fr).2.2 := by
  have hw := send_wf h.wf (a := 0) (b := 1) (fr := fr) (by omega)
  have hl := h.len
  unfold sendR at hw ⊢
  rw [if_pos (by rw [h.off]; decide), if_neg (by omega)] at hw ⊢
  refine ⟨h.nxt, rfl, hw, h.off, by simp [hl], by simp [h.nxt], fun k h0 h1 => ?_⟩
  simp only []
  rw [mset_new h.wf.fresh, mget_app h.wf.fresh]
  split
  · rfl
  · rename_i hk; rw [h.nxt] at hk; exact h.all k h0 (by omega)
theorem fill_loop {w : Int} {fr : ByteArray} (hf : fr.size ≤ 20) {k1 : Option S62 → Prop} {Q : Bool → Prop} (hk : ∀ c, Fill fr 4096 c → k1 (some c)) :
    ∀ d i c, d = 4096 - i → i ≤ 4096 → Fill fr i c → f8_l2 w fr k1 Q (some c) (i : Int) := by
  intro d
  induction d with
  | zero =>
    intro i c hd hi hc X hX
    apply hX; unfold f8_l2_b
    rw [if_neg (by omega)]
    have : i = 4096 := by omega
    subst this; exact hk c hc
  | succ d ih =>
    intro i c hd hi hc X hX
    apply hX; unfold f8_l2_b
    rw [if_pos (by omega)]
    unfold onPtr
    simp only []
    obtain ⟨e1, e2, e3⟩ := fill_send hf hc (by omega)
    refine send_spec hc.wf (by omega) ?_
    rw [if_pos e2]
    unfold f8_j3
    rw [if_neg (by simp [e1]), w64_eq (by omega) (by omega)]
    exact ih (i + 1) _ (by omega) (by omega) e3 X hX
theorem full_pure : PureChannelFull := by
  intro x0 x1 _ _
  unfold f8
  refine awake_ok ?_
  rw [if_pos rfl]
  have yes : f8_j1 x0 x1 (fun r => r = true) true := by unfold f8_j1; rw [if_pos rfl]
  split
  · exact yes
  split
  · exact yes
  by_cases hs : (x1.size : Int) > 20
  · rw [show decide ((x1.size : Int) > 20) = true by simpa using hs]; exact yes
  rw [show decide ((x1.size : Int) > 20) = false by simpa using hs]
  have hf : x1.size ≤ 20 := by omega
  unfold f8_j1
  rw [if_neg (by simp)]
  refine new_spec ?_
  rw [if_pos (show (1 : Int) ≤ 1 ∧ (1 : Int) ≤ 16 by decide)]
  dsimp only
  rw [if_pos rfl]
  refine fill_loop hf (fun c hc => ?_) 4096 0 _ rfl (by omega) ⟨new_wf (by decide), rfl, rfl, rfl, fun k h0 h1 => by omega⟩
  unfold onPtr
  simp only []
  have hl := hc.len
  have e1 : sendR c 1 0 x1 = (0, 14, c) := by
    unfold sendR; rw [if_pos (by rw [hc.off]; decide), if_pos (by omega)]
  have e2 : repR c x0 = (0, 14, c) := by
    unfold repR; rw [hc.all x0 (by omega) (by omega)]
    simp only []
    unfold sendR; rw [if_pos (by rw [hc.off]; decide), if_pos (by omega)]
  refine send_spec hc.wf (by omega) ?_
  rw [e1]
  refine rep_spec hc.wf (by omega) ?_
  rw [e2]
  refine deliv_spec hc.wf (by omega) ?_
  have hm := hc.all x0 (by omega) (by omega)
  have e3 : delivR c x0 = (⟨0, 1, x1⟩, 0, ⟨c.f0, mdel c.f1 x0, c.f2.filter (fun x => x != x0), c.f3, c.f4 + 1, c.f5⟩) := by
    unfold delivR; rw [hm]
    simp only []
    rw [if_pos (by unfold openB; rw [hc.off]; rfl)]
  have hw := deliv_wf hc.wf (k := x0)
  rw [e3] at hw ⊢
  have hln := rem_len hc.wf (hc.wf.mem hm)
  simp only [] at hw ⊢
  have e4 : sendR ⟨c.f0, mdel c.f1 x0, c.f2.filter (fun x => x != x0), c.f3, c.f4 + 1, c.f5⟩ 0 1 x1 = (4096, 0, (sendR ⟨c.f0, mdel c.f1 x0, c.f2.filter (fun x => x != x0), c.f3, c.f4 + 1, c.f5⟩ 0 1 x1).2.2) ∧ (sendR ⟨c.f0, mdel c.f1 x0, c.f2.filter (fun x => x != x0), c.f3, c.f4 + 1, c.f5⟩ 0 1 x1).2.2.f2.length = 4096 ∧ (sendR ⟨c.f0, mdel c.f1 x0, c.f2.filter (fun x => x != x0), c.f3, c.f4 + 1, c.f5⟩ 0 1 x1).2.2.f0 = [false, false] := by
    unfold sendR
    rw [if_pos (by simp only []; rw [hc.off]; decide), if_neg (by simp only []; omega)]
    refine ⟨by simp [hc.nxt], by simp; omega, hc.off⟩
  refine send_spec hw (by omega) ?_
  have hw2 := send_wf hw (a := 0) (b := 1) (fr := x1) (by omega)
  obtain ⟨e4, e5, e6⟩ := e4
  rw [e4]
  simp only []
  refine send_spec hw2 (by omega) ?_
  have e7 : ∀ c : S62, c.f2.length = 4096 → c.f0 = [false, false] → sendR c 0 1 x1 = (0, 14, c) := fun c h1 h2 => by
    unfold sendR; rw [if_pos (by rw [h2]; decide), if_pos (by omega)]
  rw [e7 _ e5 e6]
  rfl
end Go.Proofs.Ytcnlbnccghjeaaa.W
