/- What the call of the law ChannelNew comes to, as the row asks for it. Conditions: none. -/
import Derived.Test.YtcnlbnccghjeaaaLChannelNew
import Derived.Test.YtcnlbnccghjeaaaRows
import Derived.Test.YtcnlbnccghjeaaaLibR
set_option linter.unusedVariables false
set_option linter.unusedSimpArgs false
set_option maxRecDepth 100000
namespace Go.Proofs.Ytcnlbnccghjeaaa.W
open Go Go.ChangeShapes Go.WideShapes Go.ChangeAt Go.RowKit

theorem channelNew_lifted (hP : PureChannelNew) (os : Os) (started : os.Started) (H : Type) (enc : TypeId × Value → H) :
    ReturnsInHanded {} Try.checked os 3 .any (Rows.channelNewSpec.pre6 enc Try.prog Try.f3 Rows.channelNewRow.domain false) (Rows.channelNewSpec.post enc Try.prog Try.f3 false true false false) := by
  have own : ownKnob Try.prog.godebug = none := by kernel_rfl
  have laidOut : laidOutB Try.prog = true := by kernel_rfl
  refine returnsInHanded_of_change_sized (C := Try.checked) own started (by kernel_rfl) Try.func3
    (ChangeSpec.witness6 (enc := enc) (C := Try.checked) false ⟨#[], #[.int .i64 0], []⟩ 8 (by kernel_rfl) (by kernel_rfl) (by kernel_rfl) (by kernel_rfl)) ?_
  intro W base args ds gs before hval0 hW hcnd hsz0 _
  have hsz : (DataW.weightsEach Try.prog (Try.f3.params.toList ++ Rows.channelNewSpec.plain.varTypes Try.prog) (ds ++ gs)).all (· ≤ reachBytes) = true := hsz0
  have hval : ∀ (j : Nat) t v, Try.f3.params[j]? = some t → args[j]? = some v → Value.okWide Try.prog W .any base t v := hval0
  have hW' := hW
  obtain ⟨p, q, hA0, hV, rfl, hfz, hnd⟩ := hW
  have hA : DataW.TrodAll enc Try.prog W 0 (fun _ => true) true Try.f3.params.toList args.toList ds p := hA0
  rw [Try.params3] at hA hval hsz
  obtain ⟨v0, vs0, d0, ds0, p0, q0, hargs, rfl, rfl, h0, r0⟩ := trodAll_cons hA
  obtain ⟨rfl, rfl, rfl⟩ := trodAll_nil r0
  obtain rfl : args = #[v0] := by cases args; simp_all
  obtain ⟨rfl, rfl⟩ := trodVars_none hV
  have k0 := h0
  obtain ⟨_, hc0⟩ := okWide_int Try.underlying3 (hval 0 3 v0 rfl rfl)
  obtain ⟨x0, hx0⟩ := arg1 (opens_int Try.underlying3 (by kernel_rfl)) rfl rfl 0 h0 hsz rfl rfl (by rw [hc0]; rfl)
  have w0 : (InR .i64) x0 := w_int (hx0.cells1 rfl)
  obtain ⟨rfl, f0⟩ := Vl_int hx0
  clear hA0 hval0 hsz0 hsz
  refine (f3_ok (Go.Proofs.Ytcnlbnccghjeaaa.W.St.begin W) f0 (hP x0 w0)).mono fun e W' hpost => ?_
  obtain ⟨r, hst', rfl, hq⟩ := hpost
  have hq : r = true := hq
  subst hq
  have bel := Go.Proofs.Ytcnlbnccghjeaaa.W.St.below (Mem.le.refl _) hst'
  exact ⟨_, rfl, _, _, _, [], _, [], hW', trodAll_mk1 (shut_bool Try.underlying4 _), (trodAll_cons_mk (back laidOut (by kernel_rfl) (of_decide_eq_true (by kernel_rfl)) k0 bel) trodAll_mk0), rfl, bel.frame _, fun h => by cases h⟩
theorem channelNew_of (hP : PureChannelNew) : Rows.ChannelNewSaid :=
  OpenClaim.holds_of_wide 3 Try.f3 rfl rfl rfl rfl rfl rfl rfl ⟨rfl, rfl, rfl, rfl, rfl⟩ rfl rfl rfl rfl rfl (by kernel_rfl) Try.func3 (by kernel_rfl)
    (of_decide_eq_true (by kernel_rfl)) (by unfold Func.isWrapper; first | (rw [if_pos (by decide +kernel)]; kernel_rfl) | (rw [if_neg (by decide +kernel)]; exact ⟨rfl, rfl⟩))
    (fun os started H enc _ => channelNew_lifted hP os started H enc)
end Go.Proofs.Ytcnlbnccghjeaaa.W
