/- The first law of the channel, plainly. Conditions: none. -/
import Derived.Test.YtcnlbnccghjeaaaLChannelNew
import Derived.Test.YtcnlbnccghjeaaaPureC
set_option linter.unusedVariables false
namespace Go.Proofs.Ytcnlbnccghjeaaa.W
open Go
theorem new_pure : PureChannelNew := by
  intro x0 _
  unfold f3
  refine awake_ok ?_
  rw [if_pos rfl]
  refine new_spec ?_
  by_cases h : 1 ≤ x0 ∧ x0 ≤ 16
  · rw [if_pos h]
    have w0 : WF x0.toNat 0 ⟨List.replicate (x0.toNat + 1) false, [], [], 0, 0, 0⟩ := new_wf (by omega)
    rw [if_neg (by omega)]
    unfold f3_j1
    rw [if_neg (by simp; omega)]
    unfold onPtr
    refine counts_spec ?_
    rw [if_pos rfl]
    exact pending_spec w0 (by simp)
  · rw [if_neg h]
    have key : f3_j1 x0 (fun r => r = true) none 1 true := by unfold f3_j1; simp [onPtr]
    split
    · exact key
    · rw [show decide (x0 > 16) = true by simp; omega]; exact key
end Go.Proofs.Ytcnlbnccghjeaaa.W
