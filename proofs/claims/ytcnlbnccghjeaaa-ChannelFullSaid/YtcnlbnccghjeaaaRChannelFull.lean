/- What the call of the law ChannelFull comes to, as the row asks for it. Conditions: none. -/
import Derived.Test.YtcnlbnccghjeaaaLChannelFull
import Derived.Test.YtcnlbnccghjeaaaRows
import Derived.Test.YtcnlbnccghjeaaaLibR
set_option linter.unusedVariables false
set_option linter.unusedSimpArgs false
set_option maxRecDepth 100000
namespace Go.Proofs.Ytcnlbnccghjeaaa.W
open Go Go.ChangeShapes Go.WideShapes Go.ChangeAt Go.RowKit

theorem channelFull_lifted (hP : PureChannelFull) (os : Os) (started : os.Started) (H : Type) (enc : TypeId × Value → H) :
    ReturnsInHanded {} Try.checked os 8 .any (Rows.channelFullSpec.pre6 enc Try.prog Try.f8 Rows.channelFullRow.domain false) (Rows.channelFullSpec.post enc Try.prog Try.f8 false true false false) := by
  have own : ownKnob Try.prog.godebug = none := by kernel_rfl
  have laidOut : laidOutB Try.prog = true := by kernel_rfl
  refine returnsInHanded_of_change_sized (C := Try.checked) own started (by kernel_rfl) Try.func8
    (ChangeSpec.witness6 (enc := enc) (C := Try.checked) false ⟨#[], #[.int .i64 0, .string ByteArray.empty], []⟩ 8 (by kernel_rfl) (by kernel_rfl) (by kernel_rfl) (by kernel_rfl)) ?_
  intro W base args ds gs before hval0 hW hcnd hsz0 _
  have hsz : (DataW.weightsEach Try.prog (Try.f8.params.toList ++ Rows.channelFullSpec.plain.varTypes Try.prog) (ds ++ gs)).all (· ≤ reachBytes) = true := hsz0
  have hval : ∀ (j : Nat) t v, Try.f8.params[j]? = some t → args[j]? = some v → Value.okWide Try.prog W .any base t v := hval0
  have hW' := hW
  obtain ⟨p, q, hA0, hV, rfl, hfz, hnd⟩ := hW
  have hA : DataW.TrodAll enc Try.prog W 0 (fun _ => true) true Try.f8.params.toList args.toList ds p := hA0
  rw [Try.params8] at hA hval hsz
  obtain ⟨v0, vs0, d0, ds0, p0, q0, hargs, rfl, rfl, h0, r0⟩ := trodAll_cons hA
  obtain ⟨v1, vs1, d1, ds1, p1, q1, rfl, rfl, rfl, h1, r1⟩ := trodAll_cons r0
  obtain ⟨rfl, rfl, rfl⟩ := trodAll_nil r1
  obtain rfl : args = #[v0, v1] := by cases args; simp_all
  obtain ⟨rfl, rfl⟩ := trodVars_none hV
  have k0 := h0
  obtain ⟨_, hc0⟩ := okWide_int Try.underlying3 (hval 0 3 v0 rfl rfl)
  obtain ⟨x0, hx0⟩ := arg1 (opens_int Try.underlying3 (by kernel_rfl)) rfl rfl 0 h0 hsz rfl rfl (by rw [hc0]; rfl)
  have w0 : (InR .i64) x0 := w_int (hx0.cells1 rfl)
  obtain ⟨rfl, f0⟩ := Vl_int hx0
  have k1 := h1
  obtain ⟨_, hc1⟩ := okWide_string Try.underlying9 (hval 1 9 v1 rfl rfl)
  obtain ⟨x1, hx1⟩ := arg1 (opens_str Try.underlying9 (by kernel_rfl)) rfl rfl 1 h1 hsz rfl rfl (by rw [hc1]; rfl)
  have w1 : (fun s => s.size ≤ reach) x1 := w_str (hx1.cells1 rfl)
  obtain ⟨rfl, f1⟩ := Vl_str hx1
  clear hA0 hval0 hsz0 hsz
  refine (f8_ok (Go.Proofs.Ytcnlbnccghjeaaa.W.St.begin W) f0 f1 (hP x0 x1 w0 w1)).mono fun e W' hpost => ?_
  obtain ⟨r, hst', rfl, hq⟩ := hpost
  have hq : r = true := hq
  subst hq
  have bel := Go.Proofs.Ytcnlbnccghjeaaa.W.St.below (Mem.le.refl _) hst'
  exact ⟨_, rfl, _, _, _, [], _, [], hW', trodAll_mk1 (shut_bool Try.underlying4 _), (trodAll_cons_mk (back laidOut (by kernel_rfl) (of_decide_eq_true (by kernel_rfl)) k0 bel) (trodAll_cons_mk (back laidOut (by kernel_rfl) (of_decide_eq_true (by kernel_rfl)) k1 bel) trodAll_mk0)), rfl, bel.frame _, fun h => by cases h⟩
theorem channelFull_of (hP : PureChannelFull) : Rows.ChannelFullSaid :=
  OpenClaim.holds_of_wide 8 Try.f8 rfl rfl rfl rfl rfl rfl rfl ⟨rfl, rfl, rfl, rfl, rfl⟩ rfl rfl rfl rfl rfl (by kernel_rfl) Try.func8 (by kernel_rfl)
    (of_decide_eq_true (by kernel_rfl)) (by unfold Func.isWrapper; first | (rw [if_pos (by decide +kernel)]; kernel_rfl) | (rw [if_neg (by decide +kernel)]; exact ⟨rfl, rfl⟩))
    (fun os started H enc _ => channelFull_lifted hP os started H enc)
end Go.Proofs.Ytcnlbnccghjeaaa.W
