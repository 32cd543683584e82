/- What the call of the law ChannelCarries comes to, as the row asks for it. Conditions: none. -/
import Derived.Test.YtcnlbnccghjeaaaLChannelCarries
import Derived.Test.YtcnlbnccghjeaaaRows
import Derived.Test.YtcnlbnccghjeaaaLibR
set_option linter.unusedVariables false
set_option linter.unusedSimpArgs false
set_option maxRecDepth 100000
namespace Go.Proofs.Ytcnlbnccghjeaaa.W
open Go Go.ChangeShapes Go.WideShapes Go.ChangeAt Go.RowKit

theorem opens_t41 : Opens k40 Try.prog 41 := ⟨by kernel_rfl, fun h hw => by
  obtain ⟨xs, n, rfl, rfl, hl, hlen, hf⟩ := DataW.trod_struct Try.underlying41 h
  obtain ⟨y0, r0⟩ := opens_field 0 0 _ (opens_int Try.underlying3 (by kernel_rfl)) Try.underlying41 hlen hf hw rfl rfl rfl
  obtain ⟨y1, r1⟩ := opens_field 1 1 _ (opens_int Try.underlying3 (by kernel_rfl)) Try.underlying41 hlen hf hw rfl rfl rfl
  obtain ⟨y2, r2⟩ := opens_field 2 2 _ (opens_int Try.underlying3 (by kernel_rfl)) Try.underlying41 hlen hf hw rfl rfl rfl
  obtain ⟨y3, r3⟩ := opens_field 3 3 _ (opens_str Try.underlying9 (by kernel_rfl)) Try.underlying41 hlen hf hw rfl rfl rfl
  obtain ⟨y4, r4⟩ := opens_field 4 4 _ (opens_int Try.underlying5 (by kernel_rfl)) Try.underlying41 hlen hf hw rfl rfl rfl
  obtain ⟨y5, r5⟩ := opens_field 5 5 _ (opens_bool Try.underlying4 (by kernel_rfl)) Try.underlying41 hlen hf hw rfl rfl rfl
  exact ⟨⟨y0, y1, y2, y3, y4, y5⟩, ⟨r0, r1, r2, r3, r4, r5⟩, hl.trans (by kernel_rfl)⟩⟩
theorem channelCarries_lifted (hP : PureChannelCarries) (os : Os) (started : os.Started) (H : Type) (enc : TypeId × Value → H) :
    ReturnsInHanded {} Try.checked os 6 .any (Rows.channelCarriesSpec.pre6 enc Try.prog Try.f6 Rows.channelCarriesRow.domain false) (Rows.channelCarriesSpec.post enc Try.prog Try.f6 false true false false) := by
  have own : ownKnob Try.prog.godebug = none := by kernel_rfl
  have laidOut : laidOutB Try.prog = true := by kernel_rfl
  refine returnsInHanded_of_change_sized (C := Try.checked) own started (by kernel_rfl) Try.func6
    (ChangeSpec.witness6 (enc := enc) (C := Try.checked) false ⟨#[], #[.int .i64 0, .slice none 0 0, .int .i64 0, .int .i64 0, .string ByteArray.empty, .int .i64 0, .int .u8 0], []⟩ 8 (by kernel_rfl) (by kernel_rfl) (by kernel_rfl) (by kernel_rfl)) ?_
  intro W base args ds gs before hval0 hW hcnd hsz0 _
  have hsz : (DataW.weightsEach Try.prog (Try.f6.params.toList ++ Rows.channelCarriesSpec.plain.varTypes Try.prog) (ds ++ gs)).all (· ≤ reachBytes) = true := hsz0
  have hval : ∀ (j : Nat) t v, Try.f6.params[j]? = some t → args[j]? = some v → Value.okWide Try.prog W .any base t v := hval0
  have hW' := hW
  obtain ⟨p, q, hA0, hV, rfl, hfz, hnd⟩ := hW
  have hA : DataW.TrodAll enc Try.prog W 0 (fun _ => true) true Try.f6.params.toList args.toList ds p := hA0
  rw [Try.params6] at hA hval hsz
  obtain ⟨v0, vs0, d0, ds0, p0, q0, hargs, rfl, rfl, h0, r0⟩ := trodAll_cons hA
  obtain ⟨v1, vs1, d1, ds1, p1, q1, rfl, rfl, rfl, h1, r1⟩ := trodAll_cons r0
  obtain ⟨v2, vs2, d2, ds2, p2, q2, rfl, rfl, rfl, h2, r2⟩ := trodAll_cons r1
  obtain ⟨v3, vs3, d3, ds3, p3, q3, rfl, rfl, rfl, h3, r3⟩ := trodAll_cons r2
  obtain ⟨v4, vs4, d4, ds4, p4, q4, rfl, rfl, rfl, h4, r4⟩ := trodAll_cons r3
  obtain ⟨v5, vs5, d5, ds5, p5, q5, rfl, rfl, rfl, h5, r5⟩ := trodAll_cons r4
  obtain ⟨v6, vs6, d6, ds6, p6, q6, rfl, rfl, rfl, h6, r6⟩ := trodAll_cons r5
  obtain ⟨rfl, rfl, rfl⟩ := trodAll_nil r6
  obtain rfl : args = #[v0, v1, v2, v3, v4, v5, v6] := by cases args; simp_all
  obtain ⟨rfl, rfl⟩ := trodVars_none hV
  have k0 := h0
  obtain ⟨_, hc0⟩ := okWide_int Try.underlying3 (hval 0 3 v0 rfl rfl)
  obtain ⟨x0, hx0⟩ := arg1 (opens_int Try.underlying3 (by kernel_rfl)) rfl rfl 0 h0 hsz rfl rfl (by rw [hc0]; rfl)
  have w0 : (InR .i64) x0 := w_int (hx0.cells1 rfl)
  obtain ⟨rfl, f0⟩ := Vl_int hx0
  have k1 := h1
  obtain ⟨_, _, _, hc1⟩ := okWide_slice Try.underlying32 (hval 1 32 v1 rfl rfl)
  obtain ⟨x1, hx1⟩ := arg1 (opens_sl (bytes := 48) opens_t41 Try.underlying32 (by kernel_rfl) (by kernel_rfl) (Nat.le_of_ble_eq_true rfl)) rfl rfl 1 h1 hsz rfl rfl (by rw [hc1]; rfl)
  have w1 : (WL W40 48) x1 := (w_sl k40_W) (hx1.cells1 rfl)
  obtain ⟨_, _, rfl, f1⟩ := Vl_sl hx1
  have k2 := h2
  obtain ⟨_, hc2⟩ := okWide_int Try.underlying3 (hval 2 3 v2 rfl rfl)
  obtain ⟨x2, hx2⟩ := arg1 (opens_int Try.underlying3 (by kernel_rfl)) rfl rfl 2 h2 hsz rfl rfl (by rw [hc2]; rfl)
  have w2 : (InR .i64) x2 := w_int (hx2.cells1 rfl)
  obtain ⟨rfl, f2⟩ := Vl_int hx2
  have k3 := h3
  obtain ⟨_, hc3⟩ := okWide_int Try.underlying3 (hval 3 3 v3 rfl rfl)
  obtain ⟨x3, hx3⟩ := arg1 (opens_int Try.underlying3 (by kernel_rfl)) rfl rfl 3 h3 hsz rfl rfl (by rw [hc3]; rfl)
  have w3 : (InR .i64) x3 := w_int (hx3.cells1 rfl)
  obtain ⟨rfl, f3⟩ := Vl_int hx3
  have k4 := h4
  obtain ⟨_, hc4⟩ := okWide_string Try.underlying9 (hval 4 9 v4 rfl rfl)
  obtain ⟨x4, hx4⟩ := arg1 (opens_str Try.underlying9 (by kernel_rfl)) rfl rfl 4 h4 hsz rfl rfl (by rw [hc4]; rfl)
  have w4 : (fun s => s.size ≤ reach) x4 := w_str (hx4.cells1 rfl)
  obtain ⟨rfl, f4⟩ := Vl_str hx4
  have k5 := h5
  obtain ⟨_, hc5⟩ := okWide_int Try.underlying3 (hval 5 3 v5 rfl rfl)
  obtain ⟨x5, hx5⟩ := arg1 (opens_int Try.underlying3 (by kernel_rfl)) rfl rfl 5 h5 hsz rfl rfl (by rw [hc5]; rfl)
  have w5 : (InR .i64) x5 := w_int (hx5.cells1 rfl)
  obtain ⟨rfl, f5⟩ := Vl_int hx5
  have k6 := h6
  obtain ⟨_, hc6⟩ := okWide_int Try.underlying5 (hval 6 5 v6 rfl rfl)
  obtain ⟨x6, hx6⟩ := arg1 (opens_int Try.underlying5 (by kernel_rfl)) rfl rfl 6 h6 hsz rfl rfl (by rw [hc6]; rfl)
  have w6 : (InR .u8) x6 := w_int (hx6.cells1 rfl)
  obtain ⟨rfl, f6⟩ := Vl_int hx6
  clear hA0 hval0 hsz0 hsz
  refine (f6_ok (Go.Proofs.Ytcnlbnccghjeaaa.W.St.begin W) f0 f1 f2 f3 f4 f5 f6 (hP x0 x1 x2 x3 x4 x5 x6 w0 w1 w2 w3 w4 w5 w6)).mono fun e W' hpost => ?_
  obtain ⟨r, hst', rfl, hq⟩ := hpost
  have hq : r = true := hq
  subst hq
  have bel := Go.Proofs.Ytcnlbnccghjeaaa.W.St.below (Mem.le.refl _) hst'
  exact ⟨_, rfl, _, _, _, [], _, [], hW', trodAll_mk1 (shut_bool Try.underlying4 _), (trodAll_cons_mk (back laidOut (by kernel_rfl) (of_decide_eq_true (by kernel_rfl)) k0 bel) (trodAll_cons_mk (back laidOut (by kernel_rfl) (of_decide_eq_true (by kernel_rfl)) k1 bel) (trodAll_cons_mk (back laidOut (by kernel_rfl) (of_decide_eq_true (by kernel_rfl)) k2 bel) (trodAll_cons_mk (back laidOut (by kernel_rfl) (of_decide_eq_true (by kernel_rfl)) k3 bel) (trodAll_cons_mk (back laidOut (by kernel_rfl) (of_decide_eq_true (by kernel_rfl)) k4 bel) (trodAll_cons_mk (back laidOut (by kernel_rfl) (of_decide_eq_true (by kernel_rfl)) k5 bel) (trodAll_cons_mk (back laidOut (by kernel_rfl) (of_decide_eq_true (by kernel_rfl)) k6 bel) trodAll_mk0))))))), rfl, bel.frame _, fun h => by cases h⟩
theorem channelCarries_of (hP : PureChannelCarries) : Rows.ChannelCarriesSaid :=
  OpenClaim.holds_of_wide 6 Try.f6 rfl rfl rfl rfl rfl rfl rfl ⟨rfl, rfl, rfl, rfl, rfl⟩ rfl rfl rfl rfl rfl (by kernel_rfl) Try.func6 (by kernel_rfl)
    (of_decide_eq_true (by kernel_rfl)) (by unfold Func.isWrapper; first | (rw [if_pos (by decide +kernel)]; kernel_rfl) | (rw [if_neg (by decide +kernel)]; exact ⟨rfl, rfl⟩))
    (fun os started H enc _ => channelCarries_lifted hP os started H enc)
end Go.Proofs.Ytcnlbnccghjeaaa.W
