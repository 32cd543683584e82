/- Printed by gen2.py: Go functions as Lean functions, and the proofs that the calls come to them. Conditions: none. -/
import Derived.Test.YtcnlbnccghjeaaaF0
set_option linter.unusedVariables false
set_option linter.unusedSimpArgs false
set_option maxRecDepth 100000
namespace Go.Proofs.Ytcnlbnccghjeaaa.W
open Go

/-! ### 36: (*salchow/channel.Channel).remove -/
noncomputable def f36_c : Code := codeOf Try.f36
def f36_post (z : Base) (m : Mem) (G : List Grp) (b_x0 : Nat) (Q : S62 → Prop) : Ending → World → Prop := fun e w' => ∃ (r : S62) (I_i0 : Grp), W.St z w' m (I_i0 :: G) ∧ e = .returned (.tuple #[]) ∧ OwnS62 m b_x0 I_i0 r ∧ Q r
def f36_YR (z : Base) (m0 : Mem) (G : List Grp) (R : Ending → World → Prop) (b_x0 : Nat) (r : S62) : Prop := ∀ {m : Mem} {w : World} {I_i0 : Grp}, m0.le m → W.St z w m (I_i0 :: G) → (OwnS62 m b_x0 I_i0 r) →  R (.returned (.tuple #[])) w
theorem f36_YR_mono {z : Base} {m0 m1 : Mem} {G : List Grp} {R : Ending → World → Prop} {b_x0 : Nat} {r : S62} (hm : m0.le m1) (h : f36_YR z m0 G R b_x0 r) : f36_YR z m1 G R b_x0 r := by
  intro m w I_i0 hm'
  exact h (hm.trans hm')
def f36  (x0 : S62) (x1 : Int) : M S62 := fun Q => f38 x0.f2 x1 fun r27 => if r27.2 = true then (f39 x0.f2 r27.1 (w64 (r27.1 + (1 : Int))) fun r46 => Q (⟨x0.f0, (mdel x0.f1 x1), r46, x0.f3, x0.f4, x0.f5⟩ : S62)) else (Q (⟨x0.f0, (mdel x0.f1 x1), x0.f2, x0.f3, x0.f4, x0.f5⟩ : S62))
theorem f36_ok  {z : Base} {w : World} {m : Mem} {G : List Grp} {b_x0 : Nat} {I_x0 : Grp} {x0 : S62} {x1 : Int} {Q : S62 → Prop} (hst : W.St z w m (I_x0 :: G)) (h_x0 : OwnS62 m b_x0 I_x0 x0) (h_x1 : InR .i64 x1) (hr : f36  x0 x1 Q) : Calls Try.prog 36 #[.pointer (some ⟨b_x0, 0, none⟩), .int .i64 x1] w (f36_post z m G b_x0 Q) := by
  refine calls_begin (c := f36_c) (n := 32) [.pointer (some ⟨b_x0, 0, none⟩), .int .i64 x1] Try.func36 (by kernel_rfl) Try.ntmps36 (Nat.le_of_ble_eq_true rfl) fun b cs a0 hbf hbk hs0 => ?_
  have hm0 := Mem.le.refl m
  have hQ : ∀ {r : S62}, Q r → f36_YR z m G (f36_post z m G b_x0 Q) b_x0 r := by intro r hq m' w' I_i0 hm' hst' hf_i0; exact ⟨r, I_i0,  W.St.less hm' hst', rfl, (OwnS62.flat hf_i0), hq⟩
  unfold f36 at hr
  refine to_seq (sub [0] f36_c) (sub [1] f36_c) (by kernel_rfl) ?_
  refine to_nd 0 6 (rops (sub [0] f36_c)) (by kernel_rfl) (by kernel_rfl) ?_
  refine nd_q (c := 3) 3 [0, 1, 8] hs0 [(0, .pointer (some ⟨b_x0, 0, none⟩)), (1, .int .i64 x1), (8, .pointer (some ⟨b_x0, 1, none⟩))] (by kernel_rfl) fun a1 hs2 => ?_
  obtain ⟨aq3_0, cq3_0, Iq3_0, rq3_1, Iq3_1, aq3_2, cq3_2, Iq3_2, hI4, hfq3_0, hfq3_1, hfq3_2, hfq3_3, hfq3_4, hfq3_5⟩ := id h_x0
  have hst5 := hst
  rw [hI4] at hst5
  have hst6 := hst5.split.split.split
  refine nd_v (i := 3) (c := 2) 9 (.map (some rq3_1)) hs2 (by kernel_rfl) (ld1_run (P := Try.prog) (ad := ⟨b_x0, 1, none⟩) (by kernel_rfl) (W.St.ocell [] hst6 1 (Nat.le_of_ble_eq_true rfl))) fun a7 hs8 => ?_
  refine nd_q (c := 1) 1 [0, 1, 9, 10] hs8 [(0, .pointer (some ⟨b_x0, 0, none⟩)), (1, .int .i64 x1), (9, .map (some rq3_1)), (10, .int .i64 x1)] (by kernel_rfl) fun a9 hs10 => ?_
  have hst12 := W.St.front [_, _] hst6
  obtain ⟨Iq11, wq11, hxq11, hstq11, hoq11⟩ := own_delete (P := Try.prog) (o := opAt (rops (sub [0] f36_c)) 5) (ρ := Env.rho hs10.env) (k := x1) (keyInt (T := 3) (by kernel_rfl)) (by kernel_rfl) hfq3_1 hst12
  refine nd_op (op_v none (.tuple #[]) hs10 (by kernel_rfl) hxq11 fun a13 hs14 => ?_)
  refine nd_done ?_
  refine to_seq (sub [1, 0] f36_c) (sub [1, 1] f36_c) (by kernel_rfl) ?_
  refine to_nd 1 11 (rops (sub [1, 0] f36_c)) (by kernel_rfl) (by kernel_rfl) ?_
  refine nd_q (c := 8) 3 [0, 1, 14] hs14 [(0, .pointer (some ⟨b_x0, 0, none⟩)), (1, .int .i64 x1), (14, .pointer (some ⟨b_x0, 2, none⟩))] (by kernel_rfl) fun a15 hs16 => ?_
  refine nd_v (i := 3) (c := 7) 15 (.slice aq3_2 x0.f2.length cq3_2) hs16 (by kernel_rfl) (ld1_run (P := Try.prog) (ad := ⟨b_x0, 2, none⟩) (by kernel_rfl) (W.St.ocell [_] hstq11 2 (Nat.le_of_ble_eq_true rfl))) fun a17 hs18 => ?_
  refine nd_q (c := 6) 1 [0, 15, 16] hs18 [(0, .pointer (some ⟨b_x0, 0, none⟩)), (15, .slice aq3_2 x0.f2.length cq3_2), (16, .int .i64 x1)] (by kernel_rfl) fun a19 hs20 => ?_
  have hst21 := W.St.front [_, _, _] hstq11
  have hz23 := hfq3_2.lend hst21
  have hst24 := W.St.freeze hst21
  have hm25 := Mem.le_add m Iq3_2
  generalize hq26 : Mem.add m Iq3_2 = m22 at hz23 hst24 hm25
  refine nd_op (op_call (some 17) hs20 (by kernel_rfl) (by kernel_rfl) ((f38_ok hst24 hz23 h_x1 hr).mono ?_))
  rintro _ w28 ⟨r27, hst31, rfl, hf27_0_0, hr⟩
  revert hr; intro hr
  refine ⟨_, rfl, fun a29 hs30 => ?_⟩
  have hst34 := W.St.thaw2 hst21 (by rw [hq26]; exact Mem.le.refl _) hst31
  refine nd_q (c := 0) 5 [0, 4, 5] hs30 [(0, .pointer (some ⟨b_x0, 0, none⟩)), (4, .int .i64 r27.1), (5, .bool r27.2)] (by kernel_rfl) fun a35 hs36 => ?_
  refine nd_done ?_
  refine to_seq (sub [1, 1, 0] f36_c) (sub [1, 1, 1] f36_c) (by kernel_rfl) ?_
  refine to_nd 2 1 (rops (sub [1, 1, 0] f36_c)) (by kernel_rfl) (by kernel_rfl) ?_
  refine nd_q (c := 0) 1 [0, 4, 20] hs36 [(0, .pointer (some ⟨b_x0, 0, none⟩)), (4, .int .i64 r27.1), (20, .bool r27.2)] (by kernel_rfl) fun a37 hs38 => ?_
  refine nd_done ?_
  by_cases hb39 : r27.2 = true
  rotate_left
  · rw [if_neg hb39] at hr
    rw [(bF hb39)] at hs38
    refine to_else (.tmp 20) (sub [1, 1, 1, 0] f36_c) (sub [1, 1, 1, 1] f36_c) (by kernel_rfl) hs38 (by kernel_rfl) ?_
    refine to_skip (by kernel_rfl) ?_
    have hst66 := W.St.front [_] hst34
    have hst67 := W.St.front [_, _, _] hst66
    have hst68 := W.St.front [_, _, _] hst67
    have hst69 := hst68.join.join.join
    have ho70 : OwnS62 m b_x0 (((([(b_x0, .cells [.slice aq3_0 x0.f0.length cq3_0, .map (some rq3_1), .slice aq3_2 x0.f2.length cq3_2, .int .i64 x0.f3, .int .i64 x0.f4, .int .i64 x0.f5].toArray 63 (0, 0))] ++ Iq3_0) ++ Iq11) ++ Iq3_2)) (⟨x0.f0, (mdel x0.f1 x1), x0.f2, x0.f3, x0.f4, x0.f5⟩ : S62) := ⟨aq3_0, cq3_0, Iq3_0, rq3_1, Iq11, aq3_2, cq3_2, Iq3_2, rfl, hfq3_0, hoq11, hfq3_2, hfq3_3, hfq3_4, hfq3_5⟩
    generalize ((([(b_x0, .cells [.slice aq3_0 x0.f0.length cq3_0, .map (some rq3_1), .slice aq3_2 x0.f2.length cq3_2, .int .i64 x0.f3, .int .i64 x0.f4, .int .i64 x0.f5].toArray 63 (0, 0))] ++ Iq3_0) ++ Iq11) ++ Iq3_2) = I71 at ho70 hst69
    exact to_end (v := Value.tuple #[]) hbf Try.func36 hbk hs38 (by kernel_rfl) (hQ hr (Mem.le.refl _) hst69 ho70)
  rw [if_pos hb39] at hr
  rw [(bT hb39)] at hs38
  refine to_then (.tmp 20) (sub [1, 1, 1, 0] f36_c) (sub [1, 1, 1, 1] f36_c) (by kernel_rfl) hs38 (by kernel_rfl) ?_
  refine to_nd 3 12 (rops (sub [1, 1, 1, 0] f36_c)) (by kernel_rfl) (by kernel_rfl) ?_
  refine nd_q (c := 8) 4 [4, 21, 24] hs38 [(4, .int .i64 r27.1), (21, .pointer (some ⟨b_x0, 0, none⟩)), (24, .pointer (some ⟨b_x0, 2, none⟩))] (by kernel_rfl) fun a40 hs41 => ?_
  refine nd_v (i := 4) (c := 7) 25 (.slice aq3_2 x0.f2.length cq3_2) hs41 (by kernel_rfl) (ld1_run (P := Try.prog) (ad := ⟨b_x0, 2, none⟩) (by kernel_rfl) (W.St.ocell [_, _] hst34 2 (Nat.le_of_ble_eq_true rfl))) fun a42 hs43 => ?_
  refine nd_q (c := 4) 3 [21, 25, 26, 28] hs43 [(21, .pointer (some ⟨b_x0, 0, none⟩)), (25, .slice aq3_2 x0.f2.length cq3_2), (26, .int .i64 r27.1), (28, .int .i64 (w64 (r27.1 + (1 : Int))))] (by kernel_rfl) fun a44 hs45 => ?_
  refine nd_op (op_call (some 29) hs45 (by kernel_rfl) (by kernel_rfl) ((f39_ok hst34 hfq3_2 hf27_0_0 (wrap_in .i64 _) hr).mono ?_))
  rintro _ w47 ⟨r46, a46_0_0, c46_0_0, I46_0_0, hst50, rfl, hf46_0_0, hr⟩
  revert hr; intro hr
  refine ⟨_, rfl, fun a48 hs49 => ?_⟩
  refine nd_q (c := 1) 2 [29, 31] hs49 [(29, .slice a46_0_0 r46.length c46_0_0), (31, .pointer (some ⟨b_x0, 2, none⟩))] (by kernel_rfl) fun a53 hs54 => ?_
  have hst55 := W.St.front [_, _] hst50
  obtain ⟨wq56, hxq56, hstq56⟩ := stq_run (P := Try.prog) (o := opAt (rops (sub [1, 1, 1, 0] f36_c)) 11) (ρ := Env.rho hs54.env) (off := 2) (vs := [.slice a46_0_0 r46.length c46_0_0]) (by kernel_rfl) (by kernel_rfl) (Nat.le_of_ble_eq_true rfl) hst55 [.slice aq3_0 x0.f0.length cq3_0, .map (some rq3_1), .slice a46_0_0 r46.length c46_0_0, .int .i64 x0.f3, .int .i64 x0.f4, .int .i64 x0.f5] rfl
  refine nd_op (op_s none hs54 (by kernel_rfl) hxq56 fun a57 hs58 => ?_)
  refine nd_done ?_
  have hst59 := W.St.front [_] hstq56
  have hst60 := W.St.front [_, _] hst59
  have hst61 := W.St.front [_, _, _] hst60
  have hst62 := W.St.front [_, _, _] hst61
  have hst63 := hst62.join.join.join
  have ho64 : OwnS62 m b_x0 (((([(b_x0, .cells [.slice aq3_0 x0.f0.length cq3_0, .map (some rq3_1), .slice a46_0_0 r46.length c46_0_0, .int .i64 x0.f3, .int .i64 x0.f4, .int .i64 x0.f5].toArray 63 (0, 0))] ++ Iq3_0) ++ Iq11) ++ I46_0_0)) (⟨x0.f0, (mdel x0.f1 x1), r46, x0.f3, x0.f4, x0.f5⟩ : S62) := ⟨aq3_0, cq3_0, Iq3_0, rq3_1, Iq11, a46_0_0, c46_0_0, I46_0_0, rfl, hfq3_0, hoq11, hf46_0_0, hfq3_3, hfq3_4, hfq3_5⟩
  generalize ((([(b_x0, .cells [.slice aq3_0 x0.f0.length cq3_0, .map (some rq3_1), .slice a46_0_0 r46.length c46_0_0, .int .i64 x0.f3, .int .i64 x0.f4, .int .i64 x0.f5].toArray 63 (0, 0))] ++ Iq3_0) ++ Iq11) ++ I46_0_0) = I65 at ho64 hst63
  exact to_end (v := Value.tuple #[]) hbf Try.func36 hbk hs58 (by kernel_rfl) (hQ hr (Mem.le.refl _) hst63 ho64)
/-! ### 25: (*salchow/channel.Channel).Deliver -/
noncomputable def f25_c : Code := codeOf Try.f25
def f25_post (z : Base) (m : Mem) (G : List Grp) (b_x0 : Nat) (Q : (S36 × Int × S62) → Prop) : Ending → World → Prop := fun e w' => ∃ (r : (S36 × Int × S62)) (I_i0 : Grp), W.St z w' m (I_i0 :: G) ∧ e = .returned (.tuple #[.agg #[.int .i64 r.1.f0, .int .i64 r.1.f1, .string r.1.f2], .int .i64 r.2.1]) ∧ InR .i64 r.1.f0 ∧ InR .i64 r.1.f1 ∧ r.1.f2.size ≤ reach ∧ InR .i64 r.2.1 ∧ OwnS62 m b_x0 I_i0 r.2.2 ∧ Q r
def f25_YR (z : Base) (m0 : Mem) (G : List Grp) (R : Ending → World → Prop) (b_x0 : Nat) (r : (S36 × Int × S62)) : Prop := ∀ {m : Mem} {w : World} {I_i0 : Grp}, m0.le m → W.St z w m (I_i0 :: G) → (InR .i64 r.1.f0) → (InR .i64 r.1.f1) → (r.1.f2.size ≤ reach) → (InR .i64 r.2.1) → (OwnS62 m b_x0 I_i0 r.2.2) →  R (.returned (.tuple #[.agg #[.int .i64 r.1.f0, .int .i64 r.1.f1, .string r.1.f2], .int .i64 r.2.1])) w
theorem f25_YR_mono {z : Base} {m0 m1 : Mem} {G : List Grp} {R : Ending → World → Prop} {b_x0 : Nat} {r : (S36 × Int × S62)} (hm : m0.le m1) (h : f25_YR z m0 G R b_x0 r) : f25_YR z m1 G R b_x0 r := by
  intro m w I_i0 hm'
  exact h (hm.trans hm')
def f25  (x0 : S62) (x1 : Int) : M (S36 × Int × S62) := fun Q => look x0.f1 x1 (⟨(0 : Int), (0 : Int), ByteArray.empty⟩ : S36) fun v20 ok21 => if ok21 = true then (f34 x0 v20 fun r54 => if r54 = true then (f36 x0 x1 fun r67 => Q (v20, (0 : Int), (⟨r67.f0, r67.f1, r67.f2, r67.f3, (w64 (r67.f4 + (1 : Int))), r67.f5⟩ : S62))) else (Q ((⟨(0 : Int), (0 : Int), ByteArray.empty⟩ : S36), (7 : Int), x0))) else (Q ((⟨(0 : Int), (0 : Int), ByteArray.empty⟩ : S36), (8 : Int), x0))
theorem f25_ok  {z : Base} {w : World} {m : Mem} {G : List Grp} {b_x0 : Nat} {I_x0 : Grp} {x0 : S62} {x1 : Int} {Q : (S36 × Int × S62) → Prop} (hst : W.St z w m (I_x0 :: G)) (h_x0 : OwnS62 m b_x0 I_x0 x0) (h_x1 : InR .i64 x1) (hr : f25  x0 x1 Q) : Calls Try.prog 25 #[.pointer (some ⟨b_x0, 0, none⟩), .int .i64 x1] w (f25_post z m G b_x0 Q) := by
  refine calls_begin (c := f25_c) (n := 36) [.pointer (some ⟨b_x0, 0, none⟩), .int .i64 x1] Try.func25 (by kernel_rfl) Try.ntmps25 (Nat.le_of_ble_eq_true rfl) fun b cs a0 hbf hbk hs0 => ?_
  have hm0 := Mem.le.refl m
  have hQ : ∀ {r : (S36 × Int × S62)}, Q r → f25_YR z m G (f25_post z m G b_x0 Q) b_x0 r := by intro r hq m' w' I_i0 hm' hst' hf0_0 hf0_1 hf0_2 hf1_0 hf_i0; exact ⟨r, I_i0,  W.St.less hm' hst', rfl, hf0_0, hf0_1, hf0_2, hf1_0, (OwnS62.flat hf_i0), hq⟩
  unfold f25 at hr
  refine to_seq (sub [0] f25_c) (sub [1] f25_c) (by kernel_rfl) ?_
  refine to_nd 0 2 (rops (sub [0] f25_c)) (by kernel_rfl) (by kernel_rfl) ?_
  have hst3 := hst.alloc (.cells [.int .i64 (0 : Int), .int .i64 (0 : Int), .string ByteArray.empty].toArray 37 (0, 0))
  refine nd_op (op_v (w' := w.alloc (.cells [.int .i64 (0 : Int), .int .i64 (0 : Int), .string ByteArray.empty].toArray 37 (0, 0))) (some 4) (.pointer (some ⟨w.heap.size, 0, none⟩)) hs0 (by kernel_rfl) (by kernel_rfl) fun a4 hs5 => ?_)
  generalize w.heap.size = b1 at hst3 hs5
  generalize w.alloc (.cells [.int .i64 (0 : Int), .int .i64 (0 : Int), .string ByteArray.empty].toArray 37 (0, 0)) = w2 at hst3 ⊢
  refine nd_q (c := 0) 1 [0, 1, 4] hs5 [(0, .pointer (some ⟨b_x0, 0, none⟩)), (1, .int .i64 x1), (4, .pointer (some ⟨b1, 0, none⟩))] (by kernel_rfl) fun a6 hs7 => ?_
  refine nd_done ?_
  refine to_seq (sub [1, 0] f25_c) (sub [1, 1] f25_c) (by kernel_rfl) ?_
  refine to_nd 1 12 (rops (sub [1, 0] f25_c)) (by kernel_rfl) (by kernel_rfl) ?_
  refine nd_q (c := 9) 3 [0, 1, 4, 11] hs7 [(0, .pointer (some ⟨b_x0, 0, none⟩)), (1, .int .i64 x1), (4, .pointer (some ⟨b1, 0, none⟩)), (11, .pointer (some ⟨b_x0, 1, none⟩))] (by kernel_rfl) fun a8 hs9 => ?_
  have hst10 := W.St.front [_] hst3
  obtain ⟨aq11_0, cq11_0, Iq11_0, rq11_1, Iq11_1, aq11_2, cq11_2, Iq11_2, hI12, hfq11_0, hfq11_1, hfq11_2, hfq11_3, hfq11_4, hfq11_5⟩ := id h_x0
  have hst13 := hst10
  rw [hI12] at hst13
  have hst14 := hst13.split.split.split
  refine nd_v (i := 3) (c := 8) 12 (.map (some rq11_1)) hs9 (by kernel_rfl) (ld1_run (P := Try.prog) (ad := ⟨b_x0, 1, none⟩) (by kernel_rfl) (W.St.ocell [] hst14 1 (Nat.le_of_ble_eq_true rfl))) fun a15 hs16 => ?_
  refine nd_q (c := 7) 1 [0, 1, 4, 12, 13] hs16 [(0, .pointer (some ⟨b_x0, 0, none⟩)), (1, .int .i64 x1), (4, .pointer (some ⟨b1, 0, none⟩)), (12, .map (some rq11_1)), (13, .int .i64 x1)] (by kernel_rfl) fun a17 hs18 => ?_
  obtain ⟨v20, ok21, hcq19, hr⟩ := look_el hr
  obtain ⟨vq19, hvq19, hXq19⟩ := own_look 3 (Vl.ofA (k36_mk (inr_of (by kernel_rfl)) (inr_of (by kernel_rfl)) empty_small) rfl rfl) hfq11_1 hcq19
  obtain ⟨rfl, hfq19_0, hfq19_1, hfq19_2⟩ := Vl36 hvq19
  refine nd_v (i := 5) (c := 6) 14 (.tuple #[.agg #[.int .i64 v20.f0, .int .i64 v20.f1, .string v20.f2], .bool ok21]) hs18 (by kernel_rfl) (hXq19 (P := Try.prog) (w := w2) (ok := true) (keyInt (T := 3) (by kernel_rfl)) (by kernel_rfl) (W.St.front [_, _] hst14)) fun a22 hs23 => ?_
  refine nd_q (c := 3) 3 [0, 1, 4, 15, 16] hs23 [(0, .pointer (some ⟨b_x0, 0, none⟩)), (1, .int .i64 x1), (4, .pointer (some ⟨b1, 0, none⟩)), (15, .agg #[.int .i64 v20.f0, .int .i64 v20.f1, .string v20.f2]), (16, .bool ok21)] (by kernel_rfl) fun a24 hs25 => ?_
  have hst28 := hst14.alloc (.cells [.int .i64 (0 : Int), .int .i64 (0 : Int), .string ByteArray.empty].toArray 37 (0, 0))
  refine nd_op (op_v (w' := w2.alloc (.cells [.int .i64 (0 : Int), .int .i64 (0 : Int), .string ByteArray.empty].toArray 37 (0, 0))) (some 6) (.pointer (some ⟨w2.heap.size, 0, none⟩)) hs25 (by kernel_rfl) (by kernel_rfl) fun a29 hs30 => ?_)
  generalize w2.heap.size = b26 at hst28 hs30
  generalize w2.alloc (.cells [.int .i64 (0 : Int), .int .i64 (0 : Int), .string ByteArray.empty].toArray 37 (0, 0)) = w27 at hst28 ⊢
  obtain ⟨wq31, hxq31, hstq31⟩ := stq_run (P := Try.prog) (o := opAt (rops (sub [1, 0] f25_c)) 10) (ρ := Env.rho hs30.env) (off := 0) (vs := [.int .i64 v20.f0, .int .i64 v20.f1, .string v20.f2]) (by kernel_rfl) (by kernel_rfl) (Nat.le_of_ble_eq_true rfl) hst28 [.int .i64 v20.f0, .int .i64 v20.f1, .string v20.f2] rfl
  refine nd_op (op_s none hs30 (by kernel_rfl) hxq31 fun a32 hs33 => ?_)
  refine nd_q (c := 0) 1 [0, 1, 4, 6, 7] hs33 [(0, .pointer (some ⟨b_x0, 0, none⟩)), (1, .int .i64 x1), (4, .pointer (some ⟨b1, 0, none⟩)), (6, .pointer (some ⟨b26, 0, none⟩)), (7, .bool ok21)] (by kernel_rfl) fun a34 hs35 => ?_
  refine nd_done ?_
  refine to_seq (sub [1, 1, 0] f25_c) (sub [1, 1, 1] f25_c) (by kernel_rfl) ?_
  refine to_seq (sub [1, 1, 0, 0] f25_c) (sub [1, 1, 0, 1] f25_c) (by kernel_rfl) ?_
  refine to_nd 2 2 (rops (sub [1, 1, 0, 0] f25_c)) (by kernel_rfl) (by kernel_rfl) ?_
  refine nd_q (c := 0) 2 [0, 1, 4, 6, 18] hs35 [(0, .pointer (some ⟨b_x0, 0, none⟩)), (1, .int .i64 x1), (4, .pointer (some ⟨b1, 0, none⟩)), (6, .pointer (some ⟨b26, 0, none⟩)), (18, .bool (!ok21))] (by kernel_rfl) fun a36 hs37 => ?_
  refine nd_done ?_
  by_cases hb38 : ok21 = true
  rotate_left
  · rw [if_neg hb38] at hr
    rw [(bF hb38)] at hs37
    refine to_then (.tmp 18) (sub [1, 1, 0, 1, 0] f25_c) (sub [1, 1, 0, 1, 1] f25_c) (by kernel_rfl) hs37 (by kernel_rfl) ?_
    refine to_seq (sub [1, 1, 0, 1, 0, 0] f25_c) (sub [1, 1, 0, 1, 0, 1] f25_c) (by kernel_rfl) ?_
    refine to_nd 3 3 (rops (sub [1, 1, 0, 1, 0, 0] f25_c)) (by kernel_rfl) (by kernel_rfl) ?_
    refine nd_q (c := 2) 1 [4, 19] hs37 [(4, .pointer (some ⟨b1, 0, none⟩)), (19, .agg #[.int .i64 (0 : Int), .int .i64 (0 : Int), .string ByteArray.empty])] (by kernel_rfl) fun a116 hs117 => ?_
    have hst118 := W.St.front [_, _, _, _, _] hstq31
    obtain ⟨wq119, hxq119, hstq119⟩ := stq_run (P := Try.prog) (o := opAt (rops (sub [1, 1, 0, 1, 0, 0] f25_c)) 1) (ρ := Env.rho hs117.env) (off := 0) (vs := [.int .i64 (0 : Int), .int .i64 (0 : Int), .string ByteArray.empty]) (by kernel_rfl) (by kernel_rfl) (Nat.le_of_ble_eq_true rfl) hst118 [.int .i64 (0 : Int), .int .i64 (0 : Int), .string ByteArray.empty] rfl
    refine nd_op (op_s none hs117 (by kernel_rfl) hxq119 fun a120 hs121 => ?_)
    refine nd_q (c := 0) 1 [4, 5] hs121 [(4, .pointer (some ⟨b1, 0, none⟩)), (5, .int .i64 (8 : Int))] (by kernel_rfl) fun a122 hs123 => ?_
    refine nd_done ?_
    have hv124 : (resultsF Try.f25 (Env.slot hs123.env a122)).run Try.prog wq119 = .ok (.tuple #[.agg #[.int .i64 (0 : Int), .int .i64 (0 : Int), .string ByteArray.empty], .int .i64 (8 : Int)]) wq119 := resF_run [.cell 4 37, .tmp 5] [.agg #[.int .i64 (0 : Int), .int .i64 (0 : Int), .string ByteArray.empty], .int .i64 (8 : Int)] _ rfl ⟨⟨_, rfl, loadVar_many (l := [.int .i64 (0 : Int), .int .i64 (0 : Int), .string ByteArray.empty]) 3 rfl (by kernel_rfl) (W.St.ocells [] hstq119)⟩, rfl, trivial⟩ rfl
    have hst125 := W.St.front [_, _, _, _, _] hstq119
    have hst126 := W.St.front [_, _, _, _, _] hst125
    have hst127 := W.St.front [_, _, _, _, _] hst126
    have hst128 := W.St.front [_, _, _, _, _] hst127
    have hst129 := hst128.join.join.join
    rw [← hI12] at hst129
    have hst130 := W.St.drop [_] hst129
    have hst131 := W.St.drop [_] hst130
    exact to_ret (v := .tuple #[.agg #[.int .i64 (0 : Int), .int .i64 (0 : Int), .string ByteArray.empty], .int .i64 (8 : Int)]) (by kernel_rfl) hbf Try.func25 hbk hs123 hv124 (hQ hr (Mem.le.refl _) hst131 (inr_of (by kernel_rfl)) (inr_of (by kernel_rfl)) empty_small (inr_of (by kernel_rfl)) h_x0)
  rw [if_pos hb38] at hr
  rw [(bT hb38)] at hs37
  refine to_else (.tmp 18) (sub [1, 1, 0, 1, 0] f25_c) (sub [1, 1, 0, 1, 1] f25_c) (by kernel_rfl) hs37 (by kernel_rfl) ?_
  refine to_skip (by kernel_rfl) ?_
  refine to_seq (sub [1, 1, 1, 0] f25_c) (sub [1, 1, 1, 1] f25_c) (by kernel_rfl) ?_
  refine to_seq (sub [1, 1, 1, 0, 0] f25_c) (sub [1, 1, 1, 0, 1] f25_c) (by kernel_rfl) ?_
  refine to_nd 4 4 (rops (sub [1, 1, 1, 0, 0] f25_c)) (by kernel_rfl) (by kernel_rfl) ?_
  refine nd_q (c := 3) 1 [0, 1, 4, 6, 20] hs37 [(0, .pointer (some ⟨b_x0, 0, none⟩)), (1, .int .i64 x1), (4, .pointer (some ⟨b1, 0, none⟩)), (6, .pointer (some ⟨b26, 0, none⟩)), (20, .pointer (some ⟨b_x0, 0, none⟩))] (by kernel_rfl) fun a39 hs40 => ?_
  refine nd_v (i := 1) (c := 2) 21 (.agg #[.int .i64 v20.f0, .int .i64 v20.f1, .string v20.f2]) hs40 (by kernel_rfl) (ldN_run (P := Try.prog) (ad := ⟨b26, 0, none⟩) (l := [.int .i64 v20.f0, .int .i64 v20.f1, .string v20.f2]) 3 rfl (by kernel_rfl) (W.St.ocells [] hstq31)) fun a41 hs42 => ?_
  have hst43 := W.St.front [_, _, _, _] hstq31
  have hst44 := W.St.front [_, _, _, _] hst43
  have hst45 := W.St.front [_, _, _, _] hst44
  have hst46 := W.St.front [_, _, _, _] hst45
  have hst47 := hst46.join.join.join
  rw [← hI12] at hst47
  have hz49 := h_x0.lend hst47
  have hst50 := W.St.freeze hst47
  have hm51 := Mem.le_add m I_x0
  generalize hq52 : Mem.add m I_x0 = m48 at hz49 hst50 hm51
  obtain ⟨aq53_0, cq53_0, rq53_1, aq53_2, cq53_2, hAq53, hfq53_0, hfq53_1, hfq53_2, hfq53_3, hfq53_4, hfq53_5⟩ := hz49
  refine nd_op (op_call (some 22) hs42 (by kernel_rfl) (by kernel_rfl) ((f34_ok hst50 hAq53 hfq53_0 hfq53_1 hfq53_2 hfq53_3 hfq53_4 hfq53_5 hfq19_0 hfq19_1 hfq19_2 hr).mono ?_))
  rintro _ w55 ⟨r54, hst58, rfl, hr⟩
  revert hr; intro hr
  refine ⟨_, rfl, fun a56 hs57 => ?_⟩
  have hst61 := W.St.thaw2 hst47 (by rw [hq52]; exact Mem.le.refl _) hst58
  refine nd_q (c := 0) 1 [0, 1, 4, 6, 23] hs57 [(0, .pointer (some ⟨b_x0, 0, none⟩)), (1, .int .i64 x1), (4, .pointer (some ⟨b1, 0, none⟩)), (6, .pointer (some ⟨b26, 0, none⟩)), (23, .bool (!r54))] (by kernel_rfl) fun a62 hs63 => ?_
  refine nd_done ?_
  by_cases hb64 : r54 = true
  rotate_left
  · rw [if_neg hb64] at hr
    rw [(bF hb64)] at hs63
    refine to_then (.tmp 23) (sub [1, 1, 1, 0, 1, 0] f25_c) (sub [1, 1, 1, 0, 1, 1] f25_c) (by kernel_rfl) hs63 (by kernel_rfl) ?_
    refine to_seq (sub [1, 1, 1, 0, 1, 0, 0] f25_c) (sub [1, 1, 1, 0, 1, 0, 1] f25_c) (by kernel_rfl) ?_
    refine to_nd 5 3 (rops (sub [1, 1, 1, 0, 1, 0, 0] f25_c)) (by kernel_rfl) (by kernel_rfl) ?_
    refine nd_q (c := 2) 1 [4, 24] hs63 [(4, .pointer (some ⟨b1, 0, none⟩)), (24, .agg #[.int .i64 (0 : Int), .int .i64 (0 : Int), .string ByteArray.empty])] (by kernel_rfl) fun a105 hs106 => ?_
    have hst107 := W.St.front [_, _] hst61
    obtain ⟨wq108, hxq108, hstq108⟩ := stq_run (P := Try.prog) (o := opAt (rops (sub [1, 1, 1, 0, 1, 0, 0] f25_c)) 1) (ρ := Env.rho hs106.env) (off := 0) (vs := [.int .i64 (0 : Int), .int .i64 (0 : Int), .string ByteArray.empty]) (by kernel_rfl) (by kernel_rfl) (Nat.le_of_ble_eq_true rfl) hst107 [.int .i64 (0 : Int), .int .i64 (0 : Int), .string ByteArray.empty] rfl
    refine nd_op (op_s none hs106 (by kernel_rfl) hxq108 fun a109 hs110 => ?_)
    refine nd_q (c := 0) 1 [4, 5] hs110 [(4, .pointer (some ⟨b1, 0, none⟩)), (5, .int .i64 (7 : Int))] (by kernel_rfl) fun a111 hs112 => ?_
    refine nd_done ?_
    have hv113 : (resultsF Try.f25 (Env.slot hs112.env a111)).run Try.prog wq108 = .ok (.tuple #[.agg #[.int .i64 (0 : Int), .int .i64 (0 : Int), .string ByteArray.empty], .int .i64 (7 : Int)]) wq108 := resF_run [.cell 4 37, .tmp 5] [.agg #[.int .i64 (0 : Int), .int .i64 (0 : Int), .string ByteArray.empty], .int .i64 (7 : Int)] _ rfl ⟨⟨_, rfl, loadVar_many (l := [.int .i64 (0 : Int), .int .i64 (0 : Int), .string ByteArray.empty]) 3 rfl (by kernel_rfl) (W.St.ocells [] hstq108)⟩, rfl, trivial⟩ rfl
    have hst114 := W.St.drop [] hstq108
    have hst115 := W.St.drop [_] hst114
    exact to_ret (v := .tuple #[.agg #[.int .i64 (0 : Int), .int .i64 (0 : Int), .string ByteArray.empty], .int .i64 (7 : Int)]) (by kernel_rfl) hbf Try.func25 hbk hs112 hv113 (hQ hr (Mem.le.refl _) hst115 (inr_of (by kernel_rfl)) (inr_of (by kernel_rfl)) empty_small (inr_of (by kernel_rfl)) h_x0)
  rw [if_pos hb64] at hr
  rw [(bT hb64)] at hs63
  refine to_else (.tmp 23) (sub [1, 1, 1, 0, 1, 0] f25_c) (sub [1, 1, 1, 0, 1, 1] f25_c) (by kernel_rfl) hs63 (by kernel_rfl) ?_
  refine to_skip (by kernel_rfl) ?_
  refine to_seq (sub [1, 1, 1, 1, 0] f25_c) (sub [1, 1, 1, 1, 1] f25_c) (by kernel_rfl) ?_
  refine to_nd 6 3 (rops (sub [1, 1, 1, 1, 0] f25_c)) (by kernel_rfl) (by kernel_rfl) ?_
  refine nd_q (c := 1) 2 [0, 4, 6, 25, 26] hs63 [(0, .pointer (some ⟨b_x0, 0, none⟩)), (4, .pointer (some ⟨b1, 0, none⟩)), (6, .pointer (some ⟨b26, 0, none⟩)), (25, .pointer (some ⟨b_x0, 0, none⟩)), (26, .int .i64 x1)] (by kernel_rfl) fun a65 hs66 => ?_
  refine nd_op (op_call (some 27) hs66 (by kernel_rfl) (by kernel_rfl) ((f36_ok hst61 h_x0 h_x1 hr).mono ?_))
  rintro _ w68 ⟨r67, I67_i0, hst71, rfl, hf67_i0, hr⟩
  revert hr; intro hr
  refine ⟨_, rfl, fun a69 hs70 => ?_⟩
  refine nd_done ?_
  refine to_seq (sub [1, 1, 1, 1, 1, 0] f25_c) (sub [1, 1, 1, 1, 1, 1] f25_c) (by kernel_rfl) ?_
  refine to_nd 7 8 (rops (sub [1, 1, 1, 1, 1, 0] f25_c)) (by kernel_rfl) (by kernel_rfl) ?_
  refine nd_q (c := 5) 3 [4, 6, 28, 30] hs70 [(4, .pointer (some ⟨b1, 0, none⟩)), (6, .pointer (some ⟨b26, 0, none⟩)), (28, .pointer (some ⟨b_x0, 0, none⟩)), (30, .pointer (some ⟨b_x0, 4, none⟩))] (by kernel_rfl) fun a74 hs75 => ?_
  obtain ⟨aq76_0, cq76_0, Iq76_0, rq76_1, Iq76_1, aq76_2, cq76_2, Iq76_2, hI77, hfq76_0, hfq76_1, hfq76_2, hfq76_3, hfq76_4, hfq76_5⟩ := id hf67_i0
  have hst78 := hst71
  rw [hI77] at hst78
  have hst79 := hst78.split.split.split
  refine nd_v (i := 3) (c := 4) 31 (.int .i64 r67.f4) hs75 (by kernel_rfl) (ld1_run (P := Try.prog) (ad := ⟨b_x0, 4, none⟩) (by kernel_rfl) (W.St.ocell [] hst79 4 (Nat.le_of_ble_eq_true rfl))) fun a80 hs81 => ?_
  refine nd_q (c := 1) 3 [4, 6, 32, 34] hs81 [(4, .pointer (some ⟨b1, 0, none⟩)), (6, .pointer (some ⟨b26, 0, none⟩)), (32, .int .i64 (w64 (r67.f4 + (1 : Int)))), (34, .pointer (some ⟨b_x0, 4, none⟩))] (by kernel_rfl) fun a82 hs83 => ?_
  obtain ⟨wq84, hxq84, hstq84⟩ := stq_run (P := Try.prog) (o := opAt (rops (sub [1, 1, 1, 1, 1, 0] f25_c)) 7) (ρ := Env.rho hs83.env) (off := 4) (vs := [.int .i64 (w64 (r67.f4 + (1 : Int)))]) (by kernel_rfl) (by kernel_rfl) (Nat.le_of_ble_eq_true rfl) hst79 [.slice aq76_0 r67.f0.length cq76_0, .map (some rq76_1), .slice aq76_2 r67.f2.length cq76_2, .int .i64 r67.f3, .int .i64 (w64 (r67.f4 + (1 : Int))), .int .i64 r67.f5] rfl
  refine nd_op (op_s none hs83 (by kernel_rfl) hxq84 fun a85 hs86 => ?_)
  refine nd_done ?_
  refine to_seq (sub [1, 1, 1, 1, 1, 1, 0] f25_c) (sub [1, 1, 1, 1, 1, 1, 1] f25_c) (by kernel_rfl) ?_
  refine to_nd 8 3 (rops (sub [1, 1, 1, 1, 1, 1, 0] f25_c)) (by kernel_rfl) (by kernel_rfl) ?_
  refine nd_v (i := 0) (c := 2) 35 (.agg #[.int .i64 v20.f0, .int .i64 v20.f1, .string v20.f2]) hs86 (by kernel_rfl) (ldN_run (P := Try.prog) (ad := ⟨b26, 0, none⟩) (l := [.int .i64 v20.f0, .int .i64 v20.f1, .string v20.f2]) 3 rfl (by kernel_rfl) (W.St.ocells [_, _, _, _] hstq84)) fun a87 hs88 => ?_
  have hst89 := W.St.front [_, _, _, _, _] hstq84
  obtain ⟨wq90, hxq90, hstq90⟩ := stq_run (P := Try.prog) (o := opAt (rops (sub [1, 1, 1, 1, 1, 1, 0] f25_c)) 1) (ρ := Env.rho hs88.env) (off := 0) (vs := [.int .i64 v20.f0, .int .i64 v20.f1, .string v20.f2]) (by kernel_rfl) (by kernel_rfl) (Nat.le_of_ble_eq_true rfl) hst89 [.int .i64 v20.f0, .int .i64 v20.f1, .string v20.f2] rfl
  refine nd_op (op_s none hs88 (by kernel_rfl) hxq90 fun a91 hs92 => ?_)
  refine nd_q (c := 0) 1 [4, 5] hs92 [(4, .pointer (some ⟨b1, 0, none⟩)), (5, .int .i64 (0 : Int))] (by kernel_rfl) fun a93 hs94 => ?_
  refine nd_done ?_
  have hv95 : (resultsF Try.f25 (Env.slot hs94.env a93)).run Try.prog wq90 = .ok (.tuple #[.agg #[.int .i64 v20.f0, .int .i64 v20.f1, .string v20.f2], .int .i64 (0 : Int)]) wq90 := resF_run [.cell 4 37, .tmp 5] [.agg #[.int .i64 v20.f0, .int .i64 v20.f1, .string v20.f2], .int .i64 (0 : Int)] _ rfl ⟨⟨_, rfl, loadVar_many (l := [.int .i64 v20.f0, .int .i64 v20.f1, .string v20.f2]) 3 rfl (by kernel_rfl) (W.St.ocells [] hstq90)⟩, rfl, trivial⟩ rfl
  have hst96 := W.St.front [_, _, _, _] hstq90
  have hst97 := W.St.front [_, _, _, _] hst96
  have hst98 := W.St.front [_, _, _, _] hst97
  have hst99 := W.St.front [_, _, _, _] hst98
  have hst100 := hst99.join.join.join
  have ho101 : OwnS62 m b_x0 (((([(b_x0, .cells [.slice aq76_0 r67.f0.length cq76_0, .map (some rq76_1), .slice aq76_2 r67.f2.length cq76_2, .int .i64 r67.f3, .int .i64 (w64 (r67.f4 + (1 : Int))), .int .i64 r67.f5].toArray 63 (0, 0))] ++ Iq76_0) ++ Iq76_1) ++ Iq76_2)) (⟨r67.f0, r67.f1, r67.f2, r67.f3, (w64 (r67.f4 + (1 : Int))), r67.f5⟩ : S62) := ⟨aq76_0, cq76_0, Iq76_0, rq76_1, Iq76_1, aq76_2, cq76_2, Iq76_2, rfl, hfq76_0, hfq76_1, hfq76_2, hfq76_3, (wrap_in .i64 _), hfq76_5⟩
  generalize ((([(b_x0, .cells [.slice aq76_0 r67.f0.length cq76_0, .map (some rq76_1), .slice aq76_2 r67.f2.length cq76_2, .int .i64 r67.f3, .int .i64 (w64 (r67.f4 + (1 : Int))), .int .i64 r67.f5].toArray 63 (0, 0))] ++ Iq76_0) ++ Iq76_1) ++ Iq76_2) = I102 at ho101 hst100
  have hst103 := W.St.drop [_] hst100
  have hst104 := W.St.drop [_] hst103
  exact to_ret (v := .tuple #[.agg #[.int .i64 v20.f0, .int .i64 v20.f1, .string v20.f2], .int .i64 (0 : Int)]) (by kernel_rfl) hbf Try.func25 hbk hs94 hv95 (hQ hr (Mem.le.refl _) hst104 hfq19_0 hfq19_1 hfq19_2 (inr_of (by kernel_rfl)) ho101)
/-! ### 22: (*salchow/channel.Channel).Repeat -/
noncomputable def f22_c : Code := codeOf Try.f22
def f22_post (z : Base) (m : Mem) (G : List Grp) (b_x0 : Nat) (Q : (Int × Int × S62) → Prop) : Ending → World → Prop := fun e w' => ∃ (r : (Int × Int × S62)) (I_i0 : Grp), W.St z w' m (I_i0 :: G) ∧ e = .returned (.tuple #[.int .i64 r.1, .int .i64 r.2.1]) ∧ InR .i64 r.1 ∧ InR .i64 r.2.1 ∧ OwnS62 m b_x0 I_i0 r.2.2 ∧ Q r
def f22_YR (z : Base) (m0 : Mem) (G : List Grp) (R : Ending → World → Prop) (b_x0 : Nat) (r : (Int × Int × S62)) : Prop := ∀ {m : Mem} {w : World} {I_i0 : Grp}, m0.le m → W.St z w m (I_i0 :: G) → (InR .i64 r.1) → (InR .i64 r.2.1) → (OwnS62 m b_x0 I_i0 r.2.2) →  R (.returned (.tuple #[.int .i64 r.1, .int .i64 r.2.1])) w
theorem f22_YR_mono {z : Base} {m0 m1 : Mem} {G : List Grp} {R : Ending → World → Prop} {b_x0 : Nat} {r : (Int × Int × S62)} (hm : m0.le m1) (h : f22_YR z m0 G R b_x0 r) : f22_YR z m1 G R b_x0 r := by
  intro m w I_i0 hm'
  exact h (hm.trans hm')
def f22  (x0 : S62) (x1 : Int) : M (Int × Int × S62) := fun Q => look x0.f1 x1 (⟨(0 : Int), (0 : Int), ByteArray.empty⟩ : S36) fun v14 ok15 => if ok15 = true then (f21 x0 v14.f0 v14.f1 v14.f2 fun r50 => Q (r50.1, r50.2.1, r50.2.2)) else (Q ((0 : Int), (8 : Int), x0))
theorem f22_ok  {z : Base} {w : World} {m : Mem} {G : List Grp} {b_x0 : Nat} {I_x0 : Grp} {x0 : S62} {x1 : Int} {Q : (Int × Int × S62) → Prop} (hst : W.St z w m (I_x0 :: G)) (h_x0 : OwnS62 m b_x0 I_x0 x0) (h_x1 : InR .i64 x1) (hr : f22  x0 x1 Q) : Calls Try.prog 22 #[.pointer (some ⟨b_x0, 0, none⟩), .int .i64 x1] w (f22_post z m G b_x0 Q) := by
  refine calls_begin (c := f22_c) (n := 29) [.pointer (some ⟨b_x0, 0, none⟩), .int .i64 x1] Try.func22 (by kernel_rfl) Try.ntmps22 (Nat.le_of_ble_eq_true rfl) fun b cs a0 hbf hbk hs0 => ?_
  have hm0 := Mem.le.refl m
  have hQ : ∀ {r : (Int × Int × S62)}, Q r → f22_YR z m G (f22_post z m G b_x0 Q) b_x0 r := by intro r hq m' w' I_i0 hm' hst' hf0_0 hf1_0 hf_i0; exact ⟨r, I_i0,  W.St.less hm' hst', rfl, hf0_0, hf1_0, (OwnS62.flat hf_i0), hq⟩
  unfold f22 at hr
  refine to_seq (sub [0] f22_c) (sub [1] f22_c) (by kernel_rfl) ?_
  refine to_nd 0 2 (rops (sub [0] f22_c)) (by kernel_rfl) (by kernel_rfl) ?_
  refine nd_q (c := 0) 2 [0, 1] hs0 [(0, .pointer (some ⟨b_x0, 0, none⟩)), (1, .int .i64 x1)] (by kernel_rfl) fun a1 hs2 => ?_
  refine nd_done ?_
  refine to_seq (sub [1, 0] f22_c) (sub [1, 1] f22_c) (by kernel_rfl) ?_
  refine to_nd 1 12 (rops (sub [1, 0] f22_c)) (by kernel_rfl) (by kernel_rfl) ?_
  refine nd_q (c := 9) 3 [0, 1, 11] hs2 [(0, .pointer (some ⟨b_x0, 0, none⟩)), (1, .int .i64 x1), (11, .pointer (some ⟨b_x0, 1, none⟩))] (by kernel_rfl) fun a3 hs4 => ?_
  obtain ⟨aq5_0, cq5_0, Iq5_0, rq5_1, Iq5_1, aq5_2, cq5_2, Iq5_2, hI6, hfq5_0, hfq5_1, hfq5_2, hfq5_3, hfq5_4, hfq5_5⟩ := id h_x0
  have hst7 := hst
  rw [hI6] at hst7
  have hst8 := hst7.split.split.split
  refine nd_v (i := 3) (c := 8) 12 (.map (some rq5_1)) hs4 (by kernel_rfl) (ld1_run (P := Try.prog) (ad := ⟨b_x0, 1, none⟩) (by kernel_rfl) (W.St.ocell [] hst8 1 (Nat.le_of_ble_eq_true rfl))) fun a9 hs10 => ?_
  refine nd_q (c := 7) 1 [0, 12, 13] hs10 [(0, .pointer (some ⟨b_x0, 0, none⟩)), (12, .map (some rq5_1)), (13, .int .i64 x1)] (by kernel_rfl) fun a11 hs12 => ?_
  obtain ⟨v14, ok15, hcq13, hr⟩ := look_el hr
  obtain ⟨vq13, hvq13, hXq13⟩ := own_look 3 (Vl.ofA (k36_mk (inr_of (by kernel_rfl)) (inr_of (by kernel_rfl)) empty_small) rfl rfl) hfq5_1 hcq13
  obtain ⟨rfl, hfq13_0, hfq13_1, hfq13_2⟩ := Vl36 hvq13
  refine nd_v (i := 5) (c := 6) 14 (.tuple #[.agg #[.int .i64 v14.f0, .int .i64 v14.f1, .string v14.f2], .bool ok15]) hs12 (by kernel_rfl) (hXq13 (P := Try.prog) (w := w) (ok := true) (keyInt (T := 3) (by kernel_rfl)) (by kernel_rfl) (W.St.front [_, _] hst8)) fun a16 hs17 => ?_
  refine nd_q (c := 3) 3 [0, 15, 16] hs17 [(0, .pointer (some ⟨b_x0, 0, none⟩)), (15, .agg #[.int .i64 v14.f0, .int .i64 v14.f1, .string v14.f2]), (16, .bool ok15)] (by kernel_rfl) fun a18 hs19 => ?_
  have hst22 := hst8.alloc (.cells [.int .i64 (0 : Int), .int .i64 (0 : Int), .string ByteArray.empty].toArray 37 (0, 0))
  refine nd_op (op_v (w' := w.alloc (.cells [.int .i64 (0 : Int), .int .i64 (0 : Int), .string ByteArray.empty].toArray 37 (0, 0))) (some 6) (.pointer (some ⟨w.heap.size, 0, none⟩)) hs19 (by kernel_rfl) (by kernel_rfl) fun a23 hs24 => ?_)
  generalize w.heap.size = b20 at hst22 hs24
  generalize w.alloc (.cells [.int .i64 (0 : Int), .int .i64 (0 : Int), .string ByteArray.empty].toArray 37 (0, 0)) = w21 at hst22 ⊢
  obtain ⟨wq25, hxq25, hstq25⟩ := stq_run (P := Try.prog) (o := opAt (rops (sub [1, 0] f22_c)) 10) (ρ := Env.rho hs24.env) (off := 0) (vs := [.int .i64 v14.f0, .int .i64 v14.f1, .string v14.f2]) (by kernel_rfl) (by kernel_rfl) (Nat.le_of_ble_eq_true rfl) hst22 [.int .i64 v14.f0, .int .i64 v14.f1, .string v14.f2] rfl
  refine nd_op (op_s none hs24 (by kernel_rfl) hxq25 fun a26 hs27 => ?_)
  refine nd_q (c := 0) 1 [0, 6, 7] hs27 [(0, .pointer (some ⟨b_x0, 0, none⟩)), (6, .pointer (some ⟨b20, 0, none⟩)), (7, .bool ok15)] (by kernel_rfl) fun a28 hs29 => ?_
  refine nd_done ?_
  refine to_seq (sub [1, 1, 0] f22_c) (sub [1, 1, 1] f22_c) (by kernel_rfl) ?_
  refine to_seq (sub [1, 1, 0, 0] f22_c) (sub [1, 1, 0, 1] f22_c) (by kernel_rfl) ?_
  refine to_nd 2 2 (rops (sub [1, 1, 0, 0] f22_c)) (by kernel_rfl) (by kernel_rfl) ?_
  refine nd_q (c := 0) 2 [0, 6, 18] hs29 [(0, .pointer (some ⟨b_x0, 0, none⟩)), (6, .pointer (some ⟨b20, 0, none⟩)), (18, .bool (!ok15))] (by kernel_rfl) fun a30 hs31 => ?_
  refine nd_done ?_
  by_cases hb32 : ok15 = true
  rotate_left
  · rw [if_neg hb32] at hr
    rw [(bF hb32)] at hs31
    refine to_then (.tmp 18) (sub [1, 1, 0, 1, 0] f22_c) (sub [1, 1, 0, 1, 1] f22_c) (by kernel_rfl) hs31 (by kernel_rfl) ?_
    refine to_seq (sub [1, 1, 0, 1, 0, 0] f22_c) (sub [1, 1, 0, 1, 0, 1] f22_c) (by kernel_rfl) ?_
    refine to_nd 3 2 (rops (sub [1, 1, 0, 1, 0, 0] f22_c)) (by kernel_rfl) (by kernel_rfl) ?_
    refine nd_q (c := 0) 2 [4, 5] hs31 [(4, .int .i64 (0 : Int)), (5, .int .i64 (8 : Int))] (by kernel_rfl) fun a60 hs61 => ?_
    refine nd_done ?_
    have hst62 := W.St.front [_, _, _, _] hstq25
    have hst63 := W.St.front [_, _, _, _] hst62
    have hst64 := W.St.front [_, _, _, _] hst63
    have hst65 := W.St.front [_, _, _, _] hst64
    have hst66 := hst65.join.join.join
    rw [← hI6] at hst66
    have hst67 := W.St.drop [_] hst66
    exact to_ret (v := .tuple #[.int .i64 (0 : Int), .int .i64 (8 : Int)]) (by kernel_rfl) hbf Try.func22 hbk hs61 (by kernel_rfl) (hQ hr (Mem.le.refl _) hst67 (inr_of (by kernel_rfl)) (inr_of (by kernel_rfl)) h_x0)
  rw [if_pos hb32] at hr
  rw [(bT hb32)] at hs31
  refine to_else (.tmp 18) (sub [1, 1, 0, 1, 0] f22_c) (sub [1, 1, 0, 1, 1] f22_c) (by kernel_rfl) hs31 (by kernel_rfl) ?_
  refine to_skip (by kernel_rfl) ?_
  refine to_seq (sub [1, 1, 1, 0] f22_c) (sub [1, 1, 1, 1] f22_c) (by kernel_rfl) ?_
  refine to_nd 4 12 (rops (sub [1, 1, 1, 0] f22_c)) (by kernel_rfl) (by kernel_rfl) ?_
  refine nd_q (c := 10) 2 [6, 19, 20] hs31 [(6, .pointer (some ⟨b20, 0, none⟩)), (19, .pointer (some ⟨b_x0, 0, none⟩)), (20, .pointer (some ⟨b20, 0, none⟩))] (by kernel_rfl) fun a33 hs34 => ?_
  refine nd_v (i := 2) (c := 9) 21 (.int .i64 v14.f0) hs34 (by kernel_rfl) (ld1_run (P := Try.prog) (ad := ⟨b20, 0, none⟩) (by kernel_rfl) (W.St.ocell [] hstq25 0 (Nat.le_of_ble_eq_true rfl))) fun a35 hs36 => ?_
  refine nd_q (c := 8) 1 [6, 19, 21, 22] hs36 [(6, .pointer (some ⟨b20, 0, none⟩)), (19, .pointer (some ⟨b_x0, 0, none⟩)), (21, .int .i64 v14.f0), (22, .pointer (some ⟨b20, 1, none⟩))] (by kernel_rfl) fun a37 hs38 => ?_
  refine nd_v (i := 4) (c := 7) 23 (.int .i64 v14.f1) hs38 (by kernel_rfl) (ld1_run (P := Try.prog) (ad := ⟨b20, 1, none⟩) (by kernel_rfl) (W.St.ocell [] hstq25 1 (Nat.le_of_ble_eq_true rfl))) fun a39 hs40 => ?_
  refine nd_q (c := 6) 1 [19, 21, 23, 24] hs40 [(19, .pointer (some ⟨b_x0, 0, none⟩)), (21, .int .i64 v14.f0), (23, .int .i64 v14.f1), (24, .pointer (some ⟨b20, 2, none⟩))] (by kernel_rfl) fun a41 hs42 => ?_
  refine nd_v (i := 6) (c := 5) 25 (.string v14.f2) hs42 (by kernel_rfl) (ld1_run (P := Try.prog) (ad := ⟨b20, 2, none⟩) (by kernel_rfl) (W.St.ocell [] hstq25 2 (Nat.le_of_ble_eq_true rfl))) fun a43 hs44 => ?_
  have hst45 := W.St.front [_, _, _, _] hstq25
  have hst46 := W.St.front [_, _, _, _] hst45
  have hst47 := W.St.front [_, _, _, _] hst46
  have hst48 := W.St.front [_, _, _, _] hst47
  have hst49 := hst48.join.join.join
  rw [← hI6] at hst49
  refine nd_op (op_call (some 26) hs44 (by kernel_rfl) (by kernel_rfl) ((f21_ok hst49 h_x0 hfq13_0 hfq13_1 hfq13_2 hr).mono ?_))
  rintro _ w51 ⟨r50, I50_i0, hst54, rfl, hf50_0_0, hf50_1_0, hf50_i0, hr⟩
  revert hr; intro hr
  refine ⟨_, rfl, fun a52 hs53 => ?_⟩
  refine nd_q (c := 0) 4 [4, 5] hs53 [(4, .int .i64 r50.1), (5, .int .i64 r50.2.1)] (by kernel_rfl) fun a57 hs58 => ?_
  refine nd_done ?_
  have hst59 := W.St.drop [_] hst54
  exact to_ret (v := .tuple #[.int .i64 r50.1, .int .i64 r50.2.1]) (by kernel_rfl) hbf Try.func22 hbk hs58 (by kernel_rfl) (hQ hr (Mem.le.refl _) hst59 hf50_0_0 hf50_1_0 hf50_i0)
/-! ### 23: (*salchow/channel.Channel).Damage -/
noncomputable def f23_c : Code := codeOf Try.f23
def f23_post (z : Base) (m : Mem) (G : List Grp) (b_x0 : Nat) (Q : (Int × S62) → Prop) : Ending → World → Prop := fun e w' => ∃ (r : (Int × S62)) (I_i0 : Grp), W.St z w' m (I_i0 :: G) ∧ e = .returned (.int .i64 r.1) ∧ InR .i64 r.1 ∧ OwnS62 m b_x0 I_i0 r.2 ∧ Q r
def f23_YR (z : Base) (m0 : Mem) (G : List Grp) (R : Ending → World → Prop) (b_x0 : Nat) (r : (Int × S62)) : Prop := ∀ {m : Mem} {w : World} {I_i0 : Grp}, m0.le m → W.St z w m (I_i0 :: G) → (InR .i64 r.1) → (OwnS62 m b_x0 I_i0 r.2) →  R (.returned (.int .i64 r.1)) w
theorem f23_YR_mono {z : Base} {m0 m1 : Mem} {G : List Grp} {R : Ending → World → Prop} {b_x0 : Nat} {r : (Int × S62)} (hm : m0.le m1) (h : f23_YR z m0 G R b_x0 r) : f23_YR z m1 G R b_x0 r := by
  intro m w I_i0 hm'
  exact h (hm.trans hm')
def f23_j1_Y (z : Base) (m0 : Mem) (G : List Grp) (b : Frame) (cs : List Frame) (R : Ending → World → Prop) (b_x0 : Nat) (I_x0 : Grp) (x0 : S62) (x1 : Int) (x2 : Int) (x3 : Int) (x'9b : S36) (t'30 : Bool) : Prop := ∀ {m : Mem} {w : World} {a : Act} {b_x'9b : Nat}, m0.le m → W.St z w m (I_x0 :: [(b_x'9b, .cells [.int .i64 x'9b.f0, .int .i64 x'9b.f1, .string x'9b.f2].toArray 37 (0, 0))] :: G) → Has 52 a [(0, .pointer (some ⟨b_x0, 0, none⟩)), (1, .int .i64 x1), (2, .int .i64 x2), (3, .int .u8 x3), (9, .pointer (some ⟨b_x'9b, 0, none⟩)), (30, .bool t'30)] → (InR .i64 x'9b.f0) → (InR .i64 x'9b.f1) → (x'9b.f2.size ≤ reach) → Reach Try.prog b cs R [.code (sub [1, 1, 1, 0, 1] f23_c), .code (sub [1, 1, 1, 1] f23_c)] a w
def f23_j1 (x0 : S62) (x1 : Int) (x2 : Int) (x3 : Int) (Q : (Int × S62) → Prop) (x'9b : S36) (t'30 : Bool) : Prop := if t'30 = true then (Q ((1 : Int), x0)) else (ofO (scut x'9b.f2 0 x2) fun r23 => ofO (scut x'9b.f2 (w64 (x2 + (1 : Int))) (x'9b.f2.size : Int)) fun r41 => ofO (scat r23 (lit [u8 x3])) fun r60 => ofO (scat r60 r41) fun r66 => ofO (mput x0.f1 x1 (⟨x'9b.f0, x'9b.f1, r66⟩ : S36)) fun r109 => Q ((0 : Int), (⟨x0.f0, r109, x0.f2, x0.f3, x0.f4, x0.f5⟩ : S62)))
theorem f23_j1_ok {z : Base} {m0 : Mem} {G : List Grp} {b : Frame} {cs : List Frame} {R : Ending → World → Prop} {b_x0 : Nat} {I_x0 : Grp} {x0 : S62} {x1 : Int} {x2 : Int} {x3 : Int} {Q : (Int × S62) → Prop} (hbf : b.fn = 23) (hbk : b.kind = .normal) (h_x0 : OwnS62 m0 b_x0 I_x0 x0) (h_x1 : InR .i64 x1) (h_x2 : InR .i64 x2) (h_x3 : InR .u8 x3)  (hQ : ∀ {r : (Int × S62)}, Q r → f23_YR z m0 G R b_x0 r) : ∀ {x'9b : S36} {t'30 : Bool}, f23_j1 x0 x1 x2 x3 Q x'9b t'30 → f23_j1_Y z m0 G b cs R b_x0 I_x0 x0 x1 x2 x3 x'9b t'30 := by
  intro x'9b t'30 hr m w a0 b_x'9b hm0 hst hs0 h_x'9b_0 h_x'9b_1 h_x'9b_2
  unfold f23_j1 at hr
  by_cases hb1 : t'30 = true
  · rw [if_pos hb1] at hr
    rw [(bT hb1)] at hs0
    refine to_then (.tmp 30) (sub [1, 1, 1, 0, 1, 0] f23_c) (sub [1, 1, 1, 0, 1, 1] f23_c) (by kernel_rfl) hs0 (by kernel_rfl) ?_
    refine to_seq (sub [1, 1, 1, 0, 1, 0, 0] f23_c) (sub [1, 1, 1, 0, 1, 0, 1] f23_c) (by kernel_rfl) ?_
    refine to_nd 5 1 (rops (sub [1, 1, 1, 0, 1, 0, 0] f23_c)) (by kernel_rfl) (by kernel_rfl) ?_
    refine nd_q (c := 0) 1 [8] hs0 [(8, .int .i64 (1 : Int))] (by kernel_rfl) fun a2 hs3 => ?_
    refine nd_done ?_
    have hst4 := W.St.drop [_] hst
    exact to_ret (v := .int .i64 (1 : Int)) (by kernel_rfl) hbf Try.func23 hbk hs3 (by kernel_rfl) (hQ hr hm0 hst4 (inr_of (by kernel_rfl)) (h_x0.mono hm0))
  rw [if_neg hb1] at hr
  rw [(bF hb1)] at hs0
  refine to_else (.tmp 30) (sub [1, 1, 1, 0, 1, 0] f23_c) (sub [1, 1, 1, 0, 1, 1] f23_c) (by kernel_rfl) hs0 (by kernel_rfl) ?_
  refine to_skip (by kernel_rfl) ?_
  refine to_seq (sub [1, 1, 1, 1, 0] f23_c) (sub [1, 1, 1, 1, 1] f23_c) (by kernel_rfl) ?_
  have hs5 := hs0.kept [0, 1, 2, 3, 9] [(0, .pointer (some ⟨b_x0, 0, none⟩)), (1, .int .i64 x1), (2, .int .i64 x2), (3, .int .u8 x3), (9, .pointer (some ⟨b_x'9b, 0, none⟩))] (by kernel_rfl)
  refine to_dr 6 16 (rops (sub [1, 1, 1, 1, 0] f23_c)) (by kernel_rfl) (by kernel_rfl) (by kernel_rfl) [15] (fun w => Go.Proofs.Ytcnlbnccghjeaaa.W.St z w m G) (fun _ w => Go.Proofs.Ytcnlbnccghjeaaa.W.St z w m (I_x0 :: [(b_x'9b, .cells [.int .i64 x'9b.f0, .int .i64 x'9b.f1, .string x'9b.f2].toArray 37 (0, 0))] :: G)) fun hd6 => ?_
  have hst8 := hst.drawn (w.drawn + 1)
  generalize hw9 : ({ w with drawn := w.drawn + 1 } : World) = w7 at hst8 ⊢
  clear hw9
  refine dr_q (fuel := 15) [0] [0, 1, 2, 3, 9, 31] [] hs5 hd6 ⟨hst8.drop1.drop1, fun _ _ _ => hst8⟩ (by kernel_rfl) (by kernel_rfl) ([(31, .pointer (some ⟨b_x'9b, 2, none⟩))] ++ [(0, .pointer (some ⟨b_x0, 0, none⟩)), (1, .int .i64 x1), (2, .int .i64 x2), (3, .int .u8 x3), (9, .pointer (some ⟨b_x'9b, 0, none⟩))]) [(0, .pointer (some ⟨b_x0, 0, none⟩)), (1, .int .i64 x1), (2, .int .i64 x2), (3, .int .u8 x3), (9, .pointer (some ⟨b_x'9b, 0, none⟩)), (31, .pointer (some ⟨b_x'9b, 2, none⟩))] (by kernel_rfl) (by kernel_rfl) (fun _ hx => by cases hx) (fun w hT _ => by kernel_rfl) fun a10 hs11 hd12 hS13 => ?_
  refine dr_vp (fuel := 14) 1 32 (.string x'9b.f2) [15] hs11 hd12 ⟨hst8.drop1.drop1, fun _ _ _ => hst8⟩ (by kernel_rfl) (by kernel_rfl) (by kernel_rfl) (fun _ _ => hst8) (by kernel_rfl) (fun w hT hF => ld1_run (P := Try.prog) (ad := ⟨b_x'9b, 2, none⟩) (by kernel_rfl) (W.St.ocell [_] (hF 15 (by simp)) 2 (Nat.le_of_ble_eq_true rfl))) fun a15 hs16 hd14 hS17 => ?_
  refine dr_q (fuel := 13) [2] [0, 1, 2, 3, 9, 32, 33] [] hs16 hd14 ⟨hst8.drop1.drop1, fun _ _ _ => hst8⟩ (by kernel_rfl) (by kernel_rfl) ([(33, .int .i64 x2)] ++ ((32, .string x'9b.f2) :: [(0, .pointer (some ⟨b_x0, 0, none⟩)), (1, .int .i64 x1), (2, .int .i64 x2), (3, .int .u8 x3), (9, .pointer (some ⟨b_x'9b, 0, none⟩)), (31, .pointer (some ⟨b_x'9b, 2, none⟩))])) [(0, .pointer (some ⟨b_x0, 0, none⟩)), (1, .int .i64 x1), (2, .int .i64 x2), (3, .int .u8 x3), (9, .pointer (some ⟨b_x'9b, 0, none⟩)), (32, .string x'9b.f2), (33, .int .i64 x2)] (by kernel_rfl) (by kernel_rfl) (fun _ hx => by cases hx) (fun w hT _ => by kernel_rfl) fun a18 hs19 hd20 hS21 => ?_
  obtain ⟨r23, hcq24, hr⟩ := ofO_el hr
  refine dr_vp (fuel := 12) 3 34 (.string r23) [] hs19 hd20 ⟨hst8.drop1.drop1, fun _ _ _ => hst8⟩ (by kernel_rfl) (by kernel_rfl) (by kernel_rfl) (fun _ hx => by cases hx) (by kernel_rfl) (fun w hT hF => scq_run (P := Try.prog) (by kernel_rfl) hcq24) fun a25 hs26 hd22 hS27 => ?_
  refine dr_q (fuel := 10) [4, 8] [0, 1, 2, 9, 34, 35, 39] [] hs26 hd22 ⟨hst8.drop1.drop1, fun _ _ _ => hst8⟩ (by kernel_rfl) (by kernel_rfl) ([(39, .pointer (some ⟨b_x'9b, 2, none⟩)), (35, .int .u8 x3)] ++ ((34, .string r23) :: [(0, .pointer (some ⟨b_x0, 0, none⟩)), (1, .int .i64 x1), (2, .int .i64 x2), (3, .int .u8 x3), (9, .pointer (some ⟨b_x'9b, 0, none⟩)), (32, .string x'9b.f2), (33, .int .i64 x2)])) [(0, .pointer (some ⟨b_x0, 0, none⟩)), (1, .int .i64 x1), (2, .int .i64 x2), (9, .pointer (some ⟨b_x'9b, 0, none⟩)), (34, .string r23), (35, .int .u8 x3), (39, .pointer (some ⟨b_x'9b, 2, none⟩))] (by kernel_rfl) (by kernel_rfl) (fun _ hx => by cases hx) (fun w hT _ => by kernel_rfl) fun a28 hs29 hd30 hS31 => ?_
  refine dr_vp (fuel := 9) 9 40 (.string x'9b.f2) [15] hs29 hd30 ⟨hst8.drop1.drop1, fun _ _ _ => hst8⟩ (by kernel_rfl) (by kernel_rfl) (by kernel_rfl) (fun _ _ => hst8) (by kernel_rfl) (fun w hT hF => ld1_run (P := Try.prog) (ad := ⟨b_x'9b, 2, none⟩) (by kernel_rfl) (W.St.ocell [_] (hF 15 (by simp)) 2 (Nat.le_of_ble_eq_true rfl))) fun a33 hs34 hd32 hS35 => ?_
  refine dr_q (fuel := 7) [10, 11] [0, 1, 9, 34, 35, 40, 42] [] hs34 hd32 ⟨hst8.drop1.drop1, fun _ _ _ => hst8⟩ (by kernel_rfl) (by kernel_rfl) ([(42, .int .i64 (w64 (x2 + (1 : Int)))), (41, .int .i64 x2)] ++ ((40, .string x'9b.f2) :: [(0, .pointer (some ⟨b_x0, 0, none⟩)), (1, .int .i64 x1), (2, .int .i64 x2), (9, .pointer (some ⟨b_x'9b, 0, none⟩)), (34, .string r23), (35, .int .u8 x3), (39, .pointer (some ⟨b_x'9b, 2, none⟩))])) [(0, .pointer (some ⟨b_x0, 0, none⟩)), (1, .int .i64 x1), (9, .pointer (some ⟨b_x'9b, 0, none⟩)), (34, .string r23), (35, .int .u8 x3), (40, .string x'9b.f2), (42, .int .i64 (w64 (x2 + (1 : Int))))] (by kernel_rfl) (by kernel_rfl) (fun _ hx => by cases hx) (fun w hT _ => by kernel_rfl) fun a36 hs37 hd38 hS39 => ?_
  obtain ⟨r41, hcq42, hr⟩ := ofO_el hr
  refine dr_vp (fuel := 6) 12 43 (.string r41) [] hs37 hd38 ⟨hst8.drop1.drop1, fun _ _ _ => hst8⟩ (by kernel_rfl) (by kernel_rfl) (by kernel_rfl) (fun _ hx => by cases hx) (by kernel_rfl) (fun w hT hF => scq_run (P := Try.prog) (by kernel_rfl) hcq42) fun a43 hs44 hd40 hS45 => ?_
  have ho53 : OwnSl (kInt .u8) 1 5 m (some ⟨w7.heap.size, 0, none⟩) 1 [(w7.heap.size, .cells ([.int .u8 x3]).toArray 5 (0, 0))] [x3] := own_row (n := 1) (RepL.cons (l := [.int .u8 x3]) rfl (kInt_mk h_x3) RepL.nil) rfl (Nat.le_of_ble_eq_true rfl) (Nat.le_of_ble_eq_true rfl)
  have hst49 := hst8.alloc (.cells [.int .u8 x3].toArray 5 (0, 0))
  refine dr_op (i := 5) hd40 (by kernel_rfl) fun hd46 => op_v (w' := w7.alloc (.cells [.int .u8 x3].toArray 5 (0, 0))) (some 36) (.slice (some ⟨w7.heap.size, 0, none⟩) 1 1) hs44 (by kernel_rfl) (by kernel_rfl) fun a50 hs51 => ?_
  generalize w7.heap.size = b47 at hst49 hs51 ho53
  generalize w7.alloc (.cells [.int .u8 x3].toArray 5 (0, 0)) = w48 at hst49 ⊢
  refine ⟨SE_miss hst49.drop1.drop1.drop1 (W.St.drop [] hst49), reset_same (T' := (fun w => Go.Proofs.Ytcnlbnccghjeaaa.W.St z w m G)) (F' := (fun _ w => Go.Proofs.Ytcnlbnccghjeaaa.W.St z w m ([(b47, .cells [.int .u8 x3].toArray 5 (0, 0))] :: I_x0 :: [(b_x'9b, .cells [.int .i64 x'9b.f0, .int .i64 x'9b.f1, .string x'9b.f2].toArray 37 (0, 0))] :: G))) (fun w hT => ?_) (fun w hT => ?_) ?_⟩
  · exact hT
  · exact (W.St.drop [] hT)
  have hs54 := hs51.kept [0, 1, 9, 34, 35, 36, 40, 42, 43] [(0, .pointer (some ⟨b_x0, 0, none⟩)), (1, .int .i64 x1), (9, .pointer (some ⟨b_x'9b, 0, none⟩)), (34, .string r23), (35, .int .u8 x3), (36, .slice (some ⟨b47, 0, none⟩) 1 1), (40, .string x'9b.f2), (42, .int .i64 (w64 (x2 + (1 : Int)))), (43, .string r41)] (by kernel_rfl)
  refine dr_vp (fuel := 4) 6 37 (.string (lit [u8 x3])) [15] hs54 hd46 ⟨hst49.drop1.drop1.drop1, fun _ _ _ => hst49⟩ (by kernel_rfl) (by kernel_rfl) (by kernel_rfl) (fun _ _ => hst49) (by kernel_rfl) (fun w hT hF => bytes_run1 (c := 1) (P := Try.prog) (by kernel_rfl) (W.St.front [] (hF 15 (by simp)))) fun a56 hs57 hd55 hS58 => ?_
  obtain ⟨r60, hcq61, hr⟩ := ofO_el hr
  refine dr_vp (fuel := 3) 7 38 (.string r60) [] hs57 hd55 ⟨hst49.drop1.drop1.drop1, fun _ _ _ => hst49⟩ (by kernel_rfl) (by kernel_rfl) (by kernel_rfl) (fun _ hx => by cases hx) (by kernel_rfl) (fun w hT hF => saq_run (P := Try.prog) (by kernel_rfl) hcq61) fun a62 hs63 hd59 hS64 => ?_
  obtain ⟨r66, hcq67, hr⟩ := ofO_el hr
  refine dr_vp (fuel := 2) 13 44 (.string r66) [] hs63 hd59 ⟨hst49.drop1.drop1.drop1, fun _ _ _ => hst49⟩ (by kernel_rfl) (by kernel_rfl) (by kernel_rfl) (fun _ hx => by cases hx) (by kernel_rfl) (fun w hT hF => saq_run (P := Try.prog) (by kernel_rfl) hcq67) fun a68 hs69 hd65 hS70 => ?_
  refine dr_q (fuel := 1) [14] [0, 1, 9, 44, 45] [] hs69 hd65 ⟨hst49.drop1.drop1.drop1, fun _ _ _ => hst49⟩ (by kernel_rfl) (by kernel_rfl) ([(45, .pointer (some ⟨b_x'9b, 2, none⟩))] ++ ((44, .string r66) :: ((38, .string r60) :: ((37, .string (lit [u8 x3])) :: [(0, .pointer (some ⟨b_x0, 0, none⟩)), (1, .int .i64 x1), (9, .pointer (some ⟨b_x'9b, 0, none⟩)), (34, .string r23), (35, .int .u8 x3), (36, .slice (some ⟨b47, 0, none⟩) 1 1), (40, .string x'9b.f2), (42, .int .i64 (w64 (x2 + (1 : Int)))), (43, .string r41)])))) [(0, .pointer (some ⟨b_x0, 0, none⟩)), (1, .int .i64 x1), (9, .pointer (some ⟨b_x'9b, 0, none⟩)), (44, .string r66), (45, .pointer (some ⟨b_x'9b, 2, none⟩))] (by kernel_rfl) (by kernel_rfl) (fun _ hx => by cases hx) (fun w hT _ => by kernel_rfl) fun a71 hs72 hd73 hS74 => ?_
  have hst76 := W.St.front [_, _] hst49
  obtain ⟨wq77, hxq77, hstq77⟩ := stq_run (P := Try.prog) (o := opAt (rops (sub [1, 1, 1, 1, 0] f23_c)) 15) (ρ := Env.rho hs72.env) (off := 2) (vs := [.string r66]) (by kernel_rfl) (by kernel_rfl) (Nat.le_of_ble_eq_true rfl) hst76 [.int .i64 x'9b.f0, .int .i64 x'9b.f1, .string r66] rfl
  refine dr_op (i := 15) hd73 (by kernel_rfl) fun hd75 => op_s none hs72 (by kernel_rfl) hxq77 fun a78 hs79 => ?_
  refine ⟨SE_hit hstq77.drop1.drop1.drop1 rfl, reset_hit (es' := []) (T' := (fun w => Go.Proofs.Ytcnlbnccghjeaaa.W.St z w m ([(b_x'9b, .cells [.int .i64 x'9b.f0, .int .i64 x'9b.f1, .string r66].toArray 37 (0, 0))] :: [(b47, .cells [.int .u8 x3].toArray 5 (0, 0))] :: I_x0 :: G))) (F' := (fun _ _ => True)) rfl (fun w hT => ?_) ?_⟩
  · exact hT.drop1.drop1.drop1
  have hs80 := hs79.kept [0, 1, 9, 44, 45] [(0, .pointer (some ⟨b_x0, 0, none⟩)), (1, .int .i64 x1), (9, .pointer (some ⟨b_x'9b, 0, none⟩)), (44, .string r66), (45, .pointer (some ⟨b_x'9b, 2, none⟩))] (by kernel_rfl)
  refine dr_done (by kernel_rfl) ?_
  refine to_seq (sub [1, 1, 1, 1, 1, 0] f23_c) (sub [1, 1, 1, 1, 1, 1] f23_c) (by kernel_rfl) ?_
  have hst81 := W.St.front [_, _] hstq77
  obtain ⟨aq82_0, cq82_0, Iq82_0, rq82_1, Iq82_1, aq82_2, cq82_2, Iq82_2, hI83, hfq82_0, hfq82_1, hfq82_2, hfq82_3, hfq82_4, hfq82_5⟩ := id (h_x0.mono hm0)
  have hst84 := hst81
  rw [hI83] at hst84
  have hst85 := hst84.split.split.split
  have hs86 := hs80.kept [0, 1, 9] [(0, .pointer (some ⟨b_x0, 0, none⟩)), (1, .int .i64 x1), (9, .pointer (some ⟨b_x'9b, 0, none⟩))] (by kernel_rfl)
  refine to_dr 7 7 (rops (sub [1, 1, 1, 1, 1, 0] f23_c)) (by kernel_rfl) (by kernel_rfl) (by kernel_rfl) [6] (fun w => Go.Proofs.Ytcnlbnccghjeaaa.W.St z w m G) (fun _ w => Go.Proofs.Ytcnlbnccghjeaaa.W.St z w m ([(b_x0, .cells [.slice aq82_0 x0.f0.length cq82_0, .map (some rq82_1), .slice aq82_2 x0.f2.length cq82_2, .int .i64 x0.f3, .int .i64 x0.f4, .int .i64 x0.f5].toArray 63 (0, 0))] :: Iq82_0 :: Iq82_1 :: Iq82_2 :: [(b_x'9b, .cells [.int .i64 x'9b.f0, .int .i64 x'9b.f1, .string r66].toArray 37 (0, 0))] :: [(b47, .cells [.int .u8 x3].toArray 5 (0, 0))] :: G)) fun hd87 => ?_
  have hst89 := hst85.drawn (wq77.drawn + 1)
  generalize hw90 : ({ wq77 with drawn := wq77.drawn + 1 } : World) = w88 at hst89 ⊢
  clear hw90
  refine dr_q (fuel := 4) [0, 1, 2] [1, 9, 48] [] hs86 hd87 ⟨hst89.drop1.drop1.drop1.drop1.drop1.drop1, fun _ _ _ => hst89⟩ (by kernel_rfl) (by kernel_rfl) ([(48, .pointer (some ⟨b_x0, 1, none⟩)), (47, .pointer (some ⟨b_x0, 0, none⟩)), (46, .pointer (some ⟨b_x0, 0, none⟩))] ++ [(0, .pointer (some ⟨b_x0, 0, none⟩)), (1, .int .i64 x1), (9, .pointer (some ⟨b_x'9b, 0, none⟩))]) [(1, .int .i64 x1), (9, .pointer (some ⟨b_x'9b, 0, none⟩)), (48, .pointer (some ⟨b_x0, 1, none⟩))] (by kernel_rfl) (by kernel_rfl) (fun _ hx => by cases hx) (fun w hT _ => by kernel_rfl) fun a91 hs92 hd93 hS94 => ?_
  refine dr_vp (fuel := 3) 3 49 (.map (some rq82_1)) [6] hs92 hd93 ⟨hst89.drop1.drop1.drop1.drop1.drop1.drop1, fun _ _ _ => hst89⟩ (by kernel_rfl) (by kernel_rfl) (by kernel_rfl) (fun _ _ => hst89) (by kernel_rfl) (fun w hT hF => ld1_run (P := Try.prog) (ad := ⟨b_x0, 1, none⟩) (by kernel_rfl) (W.St.ocell [] (hF 6 (by simp)) 1 (Nat.le_of_ble_eq_true rfl))) fun a96 hs97 hd95 hS98 => ?_
  refine dr_q (fuel := 2) [4] [9, 49, 50] [] hs97 hd95 ⟨hst89.drop1.drop1.drop1.drop1.drop1.drop1, fun _ _ _ => hst89⟩ (by kernel_rfl) (by kernel_rfl) ([(50, .int .i64 x1)] ++ ((49, .map (some rq82_1)) :: [(1, .int .i64 x1), (9, .pointer (some ⟨b_x'9b, 0, none⟩)), (48, .pointer (some ⟨b_x0, 1, none⟩))])) [(9, .pointer (some ⟨b_x'9b, 0, none⟩)), (49, .map (some rq82_1)), (50, .int .i64 x1)] (by kernel_rfl) (by kernel_rfl) (fun _ hx => by cases hx) (fun w hT _ => by kernel_rfl) fun a99 hs100 hd101 hS102 => ?_
  refine dr_vp (fuel := 1) 5 51 (.agg #[.int .i64 x'9b.f0, .int .i64 x'9b.f1, .string r66]) [6] hs100 hd101 ⟨hst89.drop1.drop1.drop1.drop1.drop1.drop1, fun _ _ _ => hst89⟩ (by kernel_rfl) (by kernel_rfl) (by kernel_rfl) (fun _ _ => hst89) (by kernel_rfl) (fun w hT hF => ldN_run (P := Try.prog) (ad := ⟨b_x'9b, 0, none⟩) (l := [.int .i64 x'9b.f0, .int .i64 x'9b.f1, .string r66]) 3 rfl (by kernel_rfl) (W.St.ocells [_, _, _, _] (hF 6 (by simp)))) fun a104 hs105 hd103 hS106 => ?_
  obtain ⟨r109, hcq108, hr⟩ := ofO_el hr
  have hst110 := W.St.front [_, _] hst89
  obtain ⟨Iq108, wq108, hxq108, hstq108, hoq108⟩ := own_update (P := Try.prog) (o := opAt (rops (sub [1, 1, 1, 1, 1, 0] f23_c)) 6) (ρ := Env.rho hs105.env) (keyInt (T := 3) (by kernel_rfl)) (by kernel_rfl) (Vl.ofA (k36_mk h_x'9b_0 h_x'9b_1 (scat_size hcq67)) rfl rfl) hfq82_1 hst110 hcq108
  refine dr_op (i := 6) hd103 (by kernel_rfl) fun hd107 => op_s none hs105 (by kernel_rfl) hxq108 fun a111 hs112 => ?_
  refine ⟨SE_hit hstq108.drop1.drop1.drop1.drop1.drop1.drop1 rfl, reset_hit (es' := []) (T' := (fun w => Go.Proofs.Ytcnlbnccghjeaaa.W.St z w m (Iq108 :: [(b_x0, .cells [.slice aq82_0 x0.f0.length cq82_0, .map (some rq82_1), .slice aq82_2 x0.f2.length cq82_2, .int .i64 x0.f3, .int .i64 x0.f4, .int .i64 x0.f5].toArray 63 (0, 0))] :: Iq82_0 :: Iq82_2 :: [(b_x'9b, .cells [.int .i64 x'9b.f0, .int .i64 x'9b.f1, .string r66].toArray 37 (0, 0))] :: [(b47, .cells [.int .u8 x3].toArray 5 (0, 0))] :: G))) (F' := (fun _ _ => True)) rfl (fun w hT => ?_) ?_⟩
  · exact hT.drop1.drop1.drop1.drop1.drop1.drop1
  have hs113 := hs112.kept [9, 49, 50, 51] [(9, .pointer (some ⟨b_x'9b, 0, none⟩)), (49, .map (some rq82_1)), (50, .int .i64 x1), (51, .agg #[.int .i64 x'9b.f0, .int .i64 x'9b.f1, .string r66])] (by kernel_rfl)
  refine dr_done (by kernel_rfl) ?_
  refine to_seq (sub [1, 1, 1, 1, 1, 1, 0] f23_c) (sub [1, 1, 1, 1, 1, 1, 1] f23_c) (by kernel_rfl) ?_
  refine to_nd 8 1 (rops (sub [1, 1, 1, 1, 1, 1, 0] f23_c)) (by kernel_rfl) (by kernel_rfl) ?_
  refine nd_q (c := 0) 1 [8] hs113 [(8, .int .i64 (0 : Int))] (by kernel_rfl) fun a114 hs115 => ?_
  refine nd_done ?_
  have hst116 := W.St.front [_, _, _] hstq108
  have hst117 := W.St.front [_] hst116
  have hst118 := W.St.front [_, _, _] hst117
  have hst119 := W.St.front [_, _, _] hst118
  have hst120 := hst119.join.join.join
  have ho121 : OwnS62 m b_x0 (((([(b_x0, .cells [.slice aq82_0 x0.f0.length cq82_0, .map (some rq82_1), .slice aq82_2 x0.f2.length cq82_2, .int .i64 x0.f3, .int .i64 x0.f4, .int .i64 x0.f5].toArray 63 (0, 0))] ++ Iq82_0) ++ Iq108) ++ Iq82_2)) (⟨x0.f0, r109, x0.f2, x0.f3, x0.f4, x0.f5⟩ : S62) := ⟨aq82_0, cq82_0, Iq82_0, rq82_1, Iq108, aq82_2, cq82_2, Iq82_2, rfl, hfq82_0, hoq108, hfq82_2, hfq82_3, hfq82_4, hfq82_5⟩
  generalize ((([(b_x0, .cells [.slice aq82_0 x0.f0.length cq82_0, .map (some rq82_1), .slice aq82_2 x0.f2.length cq82_2, .int .i64 x0.f3, .int .i64 x0.f4, .int .i64 x0.f5].toArray 63 (0, 0))] ++ Iq82_0) ++ Iq108) ++ Iq82_2) = I122 at ho121 hst120
  have hst123 := W.St.drop [_] hst120
  have hst124 := W.St.drop [_] hst123
  exact to_ret (v := .int .i64 (0 : Int)) (by kernel_rfl) hbf Try.func23 hbk hs115 (by kernel_rfl) (hQ hr hm0 hst124 (inr_of (by kernel_rfl)) ho121)
def f23  (x0 : S62) (x1 : Int) (x2 : Int) (x3 : Int) : M (Int × S62) := fun Q => look x0.f1 x1 (⟨(0 : Int), (0 : Int), ByteArray.empty⟩ : S36) fun v14 ok15 => if ok15 = true then (if x2 < (0 : Int) then (f23_j1 x0 x1 x2 x3 Q v14 true) else (f23_j1 x0 x1 x2 x3 Q v14 (decide (x2 ≥ (v14.f2.size : Int))))) else (Q ((8 : Int), x0))
theorem f23_ok  {z : Base} {w : World} {m : Mem} {G : List Grp} {b_x0 : Nat} {I_x0 : Grp} {x0 : S62} {x1 : Int} {x2 : Int} {x3 : Int} {Q : (Int × S62) → Prop} (hst : W.St z w m (I_x0 :: G)) (h_x0 : OwnS62 m b_x0 I_x0 x0) (h_x1 : InR .i64 x1) (h_x2 : InR .i64 x2) (h_x3 : InR .u8 x3) (hr : f23  x0 x1 x2 x3 Q) : Calls Try.prog 23 #[.pointer (some ⟨b_x0, 0, none⟩), .int .i64 x1, .int .i64 x2, .int .u8 x3] w (f23_post z m G b_x0 Q) := by
  refine calls_begin (c := f23_c) (n := 52) [.pointer (some ⟨b_x0, 0, none⟩), .int .i64 x1, .int .i64 x2, .int .u8 x3] Try.func23 (by kernel_rfl) Try.ntmps23 (Nat.le_of_ble_eq_true rfl) fun b cs a0 hbf hbk hs0 => ?_
  have hm0 := Mem.le.refl m
  have hQ : ∀ {r : (Int × S62)}, Q r → f23_YR z m G (f23_post z m G b_x0 Q) b_x0 r := by intro r hq m' w' I_i0 hm' hst' hf0_0 hf_i0; exact ⟨r, I_i0,  W.St.less hm' hst', rfl, hf0_0, (OwnS62.flat hf_i0), hq⟩
  unfold f23 at hr
  refine to_seq (sub [0] f23_c) (sub [1] f23_c) (by kernel_rfl) ?_
  refine to_nd 0 1 (rops (sub [0] f23_c)) (by kernel_rfl) (by kernel_rfl) ?_
  refine nd_q (c := 0) 1 [0, 1, 2, 3] hs0 [(0, .pointer (some ⟨b_x0, 0, none⟩)), (1, .int .i64 x1), (2, .int .i64 x2), (3, .int .u8 x3)] (by kernel_rfl) fun a1 hs2 => ?_
  refine nd_done ?_
  refine to_seq (sub [1, 0] f23_c) (sub [1, 1] f23_c) (by kernel_rfl) ?_
  refine to_nd 1 12 (rops (sub [1, 0] f23_c)) (by kernel_rfl) (by kernel_rfl) ?_
  refine nd_q (c := 9) 3 [0, 1, 2, 3, 14] hs2 [(0, .pointer (some ⟨b_x0, 0, none⟩)), (1, .int .i64 x1), (2, .int .i64 x2), (3, .int .u8 x3), (14, .pointer (some ⟨b_x0, 1, none⟩))] (by kernel_rfl) fun a3 hs4 => ?_
  obtain ⟨aq5_0, cq5_0, Iq5_0, rq5_1, Iq5_1, aq5_2, cq5_2, Iq5_2, hI6, hfq5_0, hfq5_1, hfq5_2, hfq5_3, hfq5_4, hfq5_5⟩ := id h_x0
  have hst7 := hst
  rw [hI6] at hst7
  have hst8 := hst7.split.split.split
  refine nd_v (i := 3) (c := 8) 15 (.map (some rq5_1)) hs4 (by kernel_rfl) (ld1_run (P := Try.prog) (ad := ⟨b_x0, 1, none⟩) (by kernel_rfl) (W.St.ocell [] hst8 1 (Nat.le_of_ble_eq_true rfl))) fun a9 hs10 => ?_
  refine nd_q (c := 7) 1 [0, 1, 2, 3, 15, 16] hs10 [(0, .pointer (some ⟨b_x0, 0, none⟩)), (1, .int .i64 x1), (2, .int .i64 x2), (3, .int .u8 x3), (15, .map (some rq5_1)), (16, .int .i64 x1)] (by kernel_rfl) fun a11 hs12 => ?_
  obtain ⟨v14, ok15, hcq13, hr⟩ := look_el hr
  obtain ⟨vq13, hvq13, hXq13⟩ := own_look 3 (Vl.ofA (k36_mk (inr_of (by kernel_rfl)) (inr_of (by kernel_rfl)) empty_small) rfl rfl) hfq5_1 hcq13
  obtain ⟨rfl, hfq13_0, hfq13_1, hfq13_2⟩ := Vl36 hvq13
  refine nd_v (i := 5) (c := 6) 17 (.tuple #[.agg #[.int .i64 v14.f0, .int .i64 v14.f1, .string v14.f2], .bool ok15]) hs12 (by kernel_rfl) (hXq13 (P := Try.prog) (w := w) (ok := true) (keyInt (T := 3) (by kernel_rfl)) (by kernel_rfl) (W.St.front [_, _] hst8)) fun a16 hs17 => ?_
  refine nd_q (c := 3) 3 [0, 1, 2, 3, 18, 19] hs17 [(0, .pointer (some ⟨b_x0, 0, none⟩)), (1, .int .i64 x1), (2, .int .i64 x2), (3, .int .u8 x3), (18, .agg #[.int .i64 v14.f0, .int .i64 v14.f1, .string v14.f2]), (19, .bool ok15)] (by kernel_rfl) fun a18 hs19 => ?_
  have hst22 := hst8.alloc (.cells [.int .i64 (0 : Int), .int .i64 (0 : Int), .string ByteArray.empty].toArray 37 (0, 0))
  refine nd_op (op_v (w' := w.alloc (.cells [.int .i64 (0 : Int), .int .i64 (0 : Int), .string ByteArray.empty].toArray 37 (0, 0))) (some 9) (.pointer (some ⟨w.heap.size, 0, none⟩)) hs19 (by kernel_rfl) (by kernel_rfl) fun a23 hs24 => ?_)
  generalize w.heap.size = b20 at hst22 hs24
  generalize w.alloc (.cells [.int .i64 (0 : Int), .int .i64 (0 : Int), .string ByteArray.empty].toArray 37 (0, 0)) = w21 at hst22 ⊢
  obtain ⟨wq25, hxq25, hstq25⟩ := stq_run (P := Try.prog) (o := opAt (rops (sub [1, 0] f23_c)) 10) (ρ := Env.rho hs24.env) (off := 0) (vs := [.int .i64 v14.f0, .int .i64 v14.f1, .string v14.f2]) (by kernel_rfl) (by kernel_rfl) (Nat.le_of_ble_eq_true rfl) hst22 [.int .i64 v14.f0, .int .i64 v14.f1, .string v14.f2] rfl
  refine nd_op (op_s none hs24 (by kernel_rfl) hxq25 fun a26 hs27 => ?_)
  refine nd_q (c := 0) 1 [0, 1, 2, 3, 9, 10] hs27 [(0, .pointer (some ⟨b_x0, 0, none⟩)), (1, .int .i64 x1), (2, .int .i64 x2), (3, .int .u8 x3), (9, .pointer (some ⟨b20, 0, none⟩)), (10, .bool ok15)] (by kernel_rfl) fun a28 hs29 => ?_
  refine nd_done ?_
  refine to_seq (sub [1, 1, 0] f23_c) (sub [1, 1, 1] f23_c) (by kernel_rfl) ?_
  refine to_seq (sub [1, 1, 0, 0] f23_c) (sub [1, 1, 0, 1] f23_c) (by kernel_rfl) ?_
  refine to_nd 2 2 (rops (sub [1, 1, 0, 0] f23_c)) (by kernel_rfl) (by kernel_rfl) ?_
  refine nd_q (c := 0) 2 [0, 1, 2, 3, 9, 21] hs29 [(0, .pointer (some ⟨b_x0, 0, none⟩)), (1, .int .i64 x1), (2, .int .i64 x2), (3, .int .u8 x3), (9, .pointer (some ⟨b20, 0, none⟩)), (21, .bool (!ok15))] (by kernel_rfl) fun a30 hs31 => ?_
  refine nd_done ?_
  by_cases hb32 : ok15 = true
  rotate_left
  · rw [if_neg hb32] at hr
    rw [(bF hb32)] at hs31
    refine to_then (.tmp 21) (sub [1, 1, 0, 1, 0] f23_c) (sub [1, 1, 0, 1, 1] f23_c) (by kernel_rfl) hs31 (by kernel_rfl) ?_
    refine to_seq (sub [1, 1, 0, 1, 0, 0] f23_c) (sub [1, 1, 0, 1, 0, 1] f23_c) (by kernel_rfl) ?_
    refine to_nd 3 1 (rops (sub [1, 1, 0, 1, 0, 0] f23_c)) (by kernel_rfl) (by kernel_rfl) ?_
    refine nd_q (c := 0) 1 [8] hs31 [(8, .int .i64 (8 : Int))] (by kernel_rfl) fun a61 hs62 => ?_
    refine nd_done ?_
    have hst63 := W.St.front [_, _, _, _] hstq25
    have hst64 := W.St.front [_, _, _, _] hst63
    have hst65 := W.St.front [_, _, _, _] hst64
    have hst66 := W.St.front [_, _, _, _] hst65
    have hst67 := hst66.join.join.join
    rw [← hI6] at hst67
    have hst68 := W.St.drop [_] hst67
    exact to_ret (v := .int .i64 (8 : Int)) (by kernel_rfl) hbf Try.func23 hbk hs62 (by kernel_rfl) (hQ hr (Mem.le.refl _) hst68 (inr_of (by kernel_rfl)) h_x0)
  rw [if_pos hb32] at hr
  rw [(bT hb32)] at hs31
  refine to_else (.tmp 21) (sub [1, 1, 0, 1, 0] f23_c) (sub [1, 1, 0, 1, 1] f23_c) (by kernel_rfl) hs31 (by kernel_rfl) ?_
  refine to_skip (by kernel_rfl) ?_
  refine to_seq (sub [1, 1, 1, 0] f23_c) (sub [1, 1, 1, 1] f23_c) (by kernel_rfl) ?_
  refine to_seq (sub [1, 1, 1, 0, 0] f23_c) (sub [1, 1, 1, 0, 1] f23_c) (by kernel_rfl) ?_
  refine to_nd 4 9 (rops (sub [1, 1, 1, 0, 0] f23_c)) (by kernel_rfl) (by kernel_rfl) ?_
  refine nd_q (c := 6) 3 [0, 1, 2, 3, 9, 24] hs31 [(0, .pointer (some ⟨b_x0, 0, none⟩)), (1, .int .i64 x1), (2, .int .i64 x2), (3, .int .u8 x3), (9, .pointer (some ⟨b20, 0, none⟩)), (24, .bool (decide (x2 < (0 : Int))))] (by kernel_rfl) fun a33 hs34 => ?_
  by_cases hb35 : x2 < (0 : Int)
  · rw [if_pos hb35] at hr
    rw [(decide_eq_true hb35)] at hs34
    refine nd_q (c := 0) 6 [0, 1, 2, 3, 9, 30] hs34 [(0, .pointer (some ⟨b_x0, 0, none⟩)), (1, .int .i64 x1), (2, .int .i64 x2), (3, .int .u8 x3), (9, .pointer (some ⟨b20, 0, none⟩)), (30, .bool true)] (by kernel_rfl) fun a36 hs37 => ?_
    refine nd_done ?_
    have hst43 := W.St.front [_, _, _, _] hstq25
    have hst44 := W.St.front [_, _, _, _] hst43
    have hst45 := W.St.front [_, _, _, _] hst44
    have hst46 := W.St.front [_, _, _, _] hst45
    have hst47 := hst46.join.join.join
    rw [← hI6] at hst47
    have hs48 := hs37.kept [0, 1, 2, 3, 9, 30] [(0, .pointer (some ⟨b_x0, 0, none⟩)), (1, .int .i64 x1), (2, .int .i64 x2), (3, .int .u8 x3), (9, .pointer (some ⟨b20, 0, none⟩)), (30, .bool true)] (by kernel_rfl)
    exact f23_j1_ok hbf hbk h_x0 h_x1 h_x2 h_x3  hQ hr (Mem.le.refl _) hst47 hs48 hfq13_0 hfq13_1 hfq13_2
  rw [if_neg hb35] at hr
  rw [(decide_eq_false hb35)] at hs34
  refine nd_q (c := 4) 2 [0, 1, 2, 3, 9, 24, 25, 26] hs34 [(0, .pointer (some ⟨b_x0, 0, none⟩)), (1, .int .i64 x1), (2, .int .i64 x2), (3, .int .u8 x3), (9, .pointer (some ⟨b20, 0, none⟩)), (24, .bool false), (25, .int .i64 x2), (26, .pointer (some ⟨b20, 2, none⟩))] (by kernel_rfl) fun a49 hs50 => ?_
  refine nd_v (i := 5) (c := 3) 27 (.string v14.f2) hs50 (by kernel_rfl) (ld1_run (P := Try.prog) (ad := ⟨b20, 2, none⟩) (by kernel_rfl) (W.St.ocell [] hstq25 2 (Nat.le_of_ble_eq_true rfl))) fun a51 hs52 => ?_
  refine nd_q (c := 0) 3 [0, 1, 2, 3, 9, 30] hs52 [(0, .pointer (some ⟨b_x0, 0, none⟩)), (1, .int .i64 x1), (2, .int .i64 x2), (3, .int .u8 x3), (9, .pointer (some ⟨b20, 0, none⟩)), (30, .bool (decide (x2 ≥ (v14.f2.size : Int))))] (by kernel_rfl) fun a53 hs54 => ?_
  refine nd_done ?_
  have hst55 := W.St.front [_, _, _, _] hstq25
  have hst56 := W.St.front [_, _, _, _] hst55
  have hst57 := W.St.front [_, _, _, _] hst56
  have hst58 := W.St.front [_, _, _, _] hst57
  have hst59 := hst58.join.join.join
  rw [← hI6] at hst59
  have hs60 := hs54.kept [0, 1, 2, 3, 9, 30] [(0, .pointer (some ⟨b_x0, 0, none⟩)), (1, .int .i64 x1), (2, .int .i64 x2), (3, .int .u8 x3), (9, .pointer (some ⟨b20, 0, none⟩)), (30, .bool (decide (x2 ≥ (v14.f2.size : Int))))] (by kernel_rfl)
  exact f23_j1_ok hbf hbk h_x0 h_x1 h_x2 h_x3  hQ hr (Mem.le.refl _) hst59 hs60 hfq13_0 hfq13_1 hfq13_2
/-! ### 11: (*salchow/channel.Channel).Counts -/
noncomputable def f11_c : Code := codeOf Try.f11
def f11_post (z : Base) (m : Mem) (G : List Grp)  (Q : (Int × Int × Int) → Prop) : Ending → World → Prop := fun e w' => ∃ (r : (Int × Int × Int)) , W.St z w' m (G) ∧ e = .returned (.tuple #[.int .i64 r.1, .int .i64 r.2.1, .int .i64 r.2.2]) ∧ InR .i64 r.1 ∧ InR .i64 r.2.1 ∧ InR .i64 r.2.2 ∧ Q r
def f11_YR (z : Base) (m0 : Mem) (G : List Grp) (R : Ending → World → Prop)  (r : (Int × Int × Int)) : Prop := ∀ {m : Mem} {w : World} , m0.le m → W.St z w m (G) → (InR .i64 r.1) → (InR .i64 r.2.1) → (InR .i64 r.2.2) →  R (.returned (.tuple #[.int .i64 r.1, .int .i64 r.2.1, .int .i64 r.2.2])) w
theorem f11_YR_mono {z : Base} {m0 m1 : Mem} {G : List Grp} {R : Ending → World → Prop}  {r : (Int × Int × Int)} (hm : m0.le m1) (h : f11_YR z m0 G R  r) : f11_YR z m1 G R  r := by
  intro m w  hm'
  exact h (hm.trans hm')
def f11  (x0 : S62) : M (Int × Int × Int) := fun Q => Q (x0.f3, x0.f4, x0.f5)
theorem f11_ok  {z : Base} {w : World} {m : Mem} {G : List Grp} {ad_x0 : Addr} {a_x0_0 : Option Addr} {c_x0_0 : Nat} {r_x0_1 : Option Nat} {a_x0_2 : Option Addr} {c_x0_2 : Nat} {x0 : S62} {Q : (Int × Int × Int) → Prop} (hst : W.St z w m (G)) (hA_x0 : At m ad_x0 6 (cells [.slice a_x0_0 x0.f0.length c_x0_0, .map r_x0_1, .slice a_x0_2 x0.f2.length c_x0_2, .int .i64 x0.f3, .int .i64 x0.f4, .int .i64 x0.f5])) (h_x0_0 : Sl kBool 1 m a_x0_0 c_x0_0 x0.f0) (h_x0_1 : ImmM (Value.int .i64) k36 m r_x0_1 x0.f1) (h_x0_2 : Sl (kInt .i64) 8 m a_x0_2 c_x0_2 x0.f2) (h_x0_3 : InR .i64 x0.f3) (h_x0_4 : InR .i64 x0.f4) (h_x0_5 : InR .i64 x0.f5) (hr : f11  x0 Q) : Calls Try.prog 11 #[.pointer (some ad_x0)] w (f11_post z m G  Q) := by
  refine calls_begin (c := f11_c) (n := 17) [.pointer (some ad_x0)] Try.func11 (by kernel_rfl) Try.ntmps11 (Nat.le_of_ble_eq_true rfl) fun b cs a0 hbf hbk hs0 => ?_
  have hm0 := Mem.le.refl m
  have hQ : ∀ {r : (Int × Int × Int)}, Q r → f11_YR z m G (f11_post z m G  Q)  r := by intro r hq m' w'  hm' hst' hf0_0 hf1_0 hf2_0; exact ⟨r,  W.St.less hm' hst', rfl, hf0_0, hf1_0, hf2_0, hq⟩
  unfold f11 at hr
  refine to_seq (sub [0] f11_c) (sub [1] f11_c) (by kernel_rfl) ?_
  refine to_nd 0 3 (rops (sub [0] f11_c)) (by kernel_rfl) (by kernel_rfl) ?_
  refine nd_q (c := 0) 3 [0] hs0 [(0, .pointer (some ad_x0))] (by kernel_rfl) fun a1 hs2 => ?_
  refine nd_done ?_
  refine to_seq (sub [1, 0] f11_c) (sub [1, 1] f11_c) (by kernel_rfl) ?_
  have hs3 := hs2.kept [0] [(0, .pointer (some ad_x0))] (by kernel_rfl)
  refine to_dr 1 15 (rops (sub [1, 0] f11_c)) (by kernel_rfl) (by kernel_rfl) (by kernel_rfl) [] (fun w => Go.Proofs.Ytcnlbnccghjeaaa.W.St z w m (G)) (fun _ _ => True) fun hd4 => ?_
  have hst6 := hst.drawn (w.drawn + 1)
  generalize hw7 : ({ w with drawn := w.drawn + 1 } : World) = w5 at hst6 ⊢
  clear hw7
  refine dr_q (fuel := 12) [0, 1, 2] [0, 7] [] hs3 hd4 ⟨hst6, fun _ hx => by cases hx⟩ (by kernel_rfl) (by kernel_rfl) ([(7, .pointer (some ⟨ad_x0.block, ad_x0.off + 3, none⟩)), (6, .pointer (some ad_x0)), (5, .pointer (some ad_x0))] ++ [(0, .pointer (some ad_x0))]) [(0, .pointer (some ad_x0)), (7, .pointer (some ⟨ad_x0.block, ad_x0.off + 3, none⟩))] (by kernel_rfl) (by kernel_rfl) (fun _ hx => by cases hx) (fun w hT _ => by kernel_rfl) fun a8 hs9 hd10 hS11 => ?_
  refine dr_vp (fuel := 11) 3 8 (.int .i64 x0.f3) [] hs9 hd10 ⟨hst6, fun _ hx => by cases hx⟩ (by kernel_rfl) (by kernel_rfl) (by kernel_rfl) (fun _ hx => by cases hx) (by kernel_rfl) (fun w hT hF => ld1_run (P := Try.prog) (ad := ⟨ad_x0.block, ad_x0.off + 3, none⟩) (by kernel_rfl) (hA_x0.cell hT (j := 3) (Nat.le_of_ble_eq_true rfl))) fun a13 hs14 hd12 hS15 => ?_
  refine dr_q (fuel := 8) [4, 5, 6] [0, 8, 11] [] hs14 hd12 ⟨hst6, fun _ hx => by cases hx⟩ (by kernel_rfl) (by kernel_rfl) ([(11, .pointer (some ⟨ad_x0.block, ad_x0.off + 4, none⟩)), (10, .pointer (some ad_x0)), (9, .pointer (some ad_x0))] ++ ((8, .int .i64 x0.f3) :: [(0, .pointer (some ad_x0)), (7, .pointer (some ⟨ad_x0.block, ad_x0.off + 3, none⟩))])) [(0, .pointer (some ad_x0)), (8, .int .i64 x0.f3), (11, .pointer (some ⟨ad_x0.block, ad_x0.off + 4, none⟩))] (by kernel_rfl) (by kernel_rfl) (fun _ hx => by cases hx) (fun w hT _ => by kernel_rfl) fun a16 hs17 hd18 hS19 => ?_
  refine dr_vp (fuel := 7) 7 12 (.int .i64 x0.f4) [] hs17 hd18 ⟨hst6, fun _ hx => by cases hx⟩ (by kernel_rfl) (by kernel_rfl) (by kernel_rfl) (fun _ hx => by cases hx) (by kernel_rfl) (fun w hT hF => ld1_run (P := Try.prog) (ad := ⟨ad_x0.block, ad_x0.off + 4, none⟩) (by kernel_rfl) (hA_x0.cell hT (j := 4) (Nat.le_of_ble_eq_true rfl))) fun a21 hs22 hd20 hS23 => ?_
  refine dr_q (fuel := 4) [8, 9, 10] [8, 12, 15] [] hs22 hd20 ⟨hst6, fun _ hx => by cases hx⟩ (by kernel_rfl) (by kernel_rfl) ([(15, .pointer (some ⟨ad_x0.block, ad_x0.off + 5, none⟩)), (14, .pointer (some ad_x0)), (13, .pointer (some ad_x0))] ++ ((12, .int .i64 x0.f4) :: [(0, .pointer (some ad_x0)), (8, .int .i64 x0.f3), (11, .pointer (some ⟨ad_x0.block, ad_x0.off + 4, none⟩))])) [(8, .int .i64 x0.f3), (12, .int .i64 x0.f4), (15, .pointer (some ⟨ad_x0.block, ad_x0.off + 5, none⟩))] (by kernel_rfl) (by kernel_rfl) (fun _ hx => by cases hx) (fun w hT _ => by kernel_rfl) fun a24 hs25 hd26 hS27 => ?_
  refine dr_vp (fuel := 3) 11 16 (.int .i64 x0.f5) [] hs25 hd26 ⟨hst6, fun _ hx => by cases hx⟩ (by kernel_rfl) (by kernel_rfl) (by kernel_rfl) (fun _ hx => by cases hx) (by kernel_rfl) (fun w hT hF => ld1_run (P := Try.prog) (ad := ⟨ad_x0.block, ad_x0.off + 5, none⟩) (by kernel_rfl) (hA_x0.cell hT (j := 5) (Nat.le_of_ble_eq_true rfl))) fun a29 hs30 hd28 hS31 => ?_
  refine dr_q (fuel := 0) [12, 13, 14] [2, 3, 4] [] hs30 hd28 ⟨hst6, fun _ hx => by cases hx⟩ (by kernel_rfl) (by kernel_rfl) ([(4, .int .i64 x0.f5), (3, .int .i64 x0.f4), (2, .int .i64 x0.f3)] ++ ((16, .int .i64 x0.f5) :: [(8, .int .i64 x0.f3), (12, .int .i64 x0.f4), (15, .pointer (some ⟨ad_x0.block, ad_x0.off + 5, none⟩))])) [(2, .int .i64 x0.f3), (3, .int .i64 x0.f4), (4, .int .i64 x0.f5)] (by kernel_rfl) (by kernel_rfl) (fun _ hx => by cases hx) (fun w hT _ => by kernel_rfl) fun a32 hs33 hd34 hS35 => ?_
  refine dr_done (by kernel_rfl) ?_
  exact to_ret (v := .tuple #[.int .i64 x0.f3, .int .i64 x0.f4, .int .i64 x0.f5]) (by kernel_rfl) hbf Try.func11 hbk hs33 (by kernel_rfl) (hQ hr (Mem.le.refl _) hst6 h_x0_3 h_x0_4 h_x0_5)
/-! ### 27: slices.Clone[[]int,int] -/
noncomputable def f27_c : Code := codeOf Try.f27
def f27_post (z : Base) (m : Mem) (G : List Grp)  (Q : (List Int) → Prop) : Ending → World → Prop := fun e w' => ∃ (r : (List Int)) (a0_0 : Option Addr) (c0_0 : Nat) (I0_0 : Grp), W.St z w' m (I0_0 :: G) ∧ e = .returned (.slice a0_0 r.length c0_0) ∧ OwnSl (kInt .i64) 8 3 m a0_0 c0_0 I0_0 r ∧ Q r
def f27_YR (z : Base) (m0 : Mem) (G : List Grp) (R : Ending → World → Prop)  (r : (List Int)) : Prop := ∀ {m : Mem} {w : World} {a0_0 : Option Addr} {c0_0 : Nat} {I0_0 : Grp}, m0.le m → W.St z w m (I0_0 :: G) → (OwnSl (kInt .i64) 8 3 m a0_0 c0_0 I0_0 r) →  R (.returned (.slice a0_0 r.length c0_0)) w
theorem f27_YR_mono {z : Base} {m0 m1 : Mem} {G : List Grp} {R : Ending → World → Prop}  {r : (List Int)} (hm : m0.le m1) (h : f27_YR z m0 G R  r) : f27_YR z m1 G R  r := by
  intro m w a0_0 c0_0 I0_0 hm'
  exact h (hm.trans hm')
def f27_j1_Y (z : Base) (m0 : Mem) (G : List Grp) (b : Frame) (cs : List Frame) (R : Ending → World → Prop) (a_x0 : Option Addr) (c_x0 : Nat) (x0 : (List Int)) (t'4 : Bool) : Prop := ∀ {m : Mem} {w : World} {a : Act} , m0.le m → W.St z w m (G) → Has 8 a [(0, .slice a_x0 x0.length c_x0), (4, .bool t'4)] →  Reach Try.prog b cs R [.code (sub [1, 0, 1] f27_c), .code (sub [1, 1] f27_c)] a w
def f27_j1 (x0 : (List Int)) (Q : (List Int) → Prop) (t'4 : Bool) : Prop := if t'4 = true then (Q ([] : List Int)) else (ofO (app 8 ([] : List Int) x0) fun r14 => Q r14)
theorem f27_j1_ok {z : Base} {m0 : Mem} {G : List Grp} {b : Frame} {cs : List Frame} {R : Ending → World → Prop} {a_x0 : Option Addr} {c_x0 : Nat} {x0 : (List Int)} {Q : (List Int) → Prop} (hbf : b.fn = 27) (hbk : b.kind = .normal) (h_x0 : Sl (kInt .i64) 8 m0 a_x0 c_x0 x0)  (hQ : ∀ {r : (List Int)}, Q r → f27_YR z m0 G R  r) : ∀ {t'4 : Bool}, f27_j1 x0 Q t'4 → f27_j1_Y z m0 G b cs R a_x0 c_x0 x0 t'4 := by
  intro t'4 hr m w a0  hm0 hst hs0 
  unfold f27_j1 at hr
  by_cases hb1 : t'4 = true
  · rw [if_pos hb1] at hr
    rw [(bT hb1)] at hs0
    refine to_then (.tmp 4) (sub [1, 0, 1, 0] f27_c) (sub [1, 0, 1, 1] f27_c) (by kernel_rfl) hs0 (by kernel_rfl) ?_
    refine to_seq (sub [1, 0, 1, 0, 0] f27_c) (sub [1, 0, 1, 0, 1] f27_c) (by kernel_rfl) ?_
    refine to_nd 2 1 (rops (sub [1, 0, 1, 0, 0] f27_c)) (by kernel_rfl) (by kernel_rfl) ?_
    refine nd_q (c := 0) 1 [2] hs0 [(2, .slice none 0 0)] (by kernel_rfl) fun a2 hs3 => ?_
    refine nd_done ?_
    have hst4 := hst.nil
    exact to_ret (v := .slice none 0 0) (by kernel_rfl) hbf Try.func27 hbk hs3 (by kernel_rfl) (hQ hr hm0 hst4 OwnSl.nil)
  rw [if_neg hb1] at hr
  rw [(bF hb1)] at hs0
  refine to_else (.tmp 4) (sub [1, 0, 1, 0] f27_c) (sub [1, 0, 1, 1] f27_c) (by kernel_rfl) hs0 (by kernel_rfl) ?_
  refine to_skip (by kernel_rfl) ?_
  refine to_seq (sub [1, 1, 0] f27_c) (sub [1, 1, 1] f27_c) (by kernel_rfl) ?_
  refine to_nd 3 4 (rops (sub [1, 1, 0] f27_c)) (by kernel_rfl) (by kernel_rfl) ?_
  have ho11 : OwnSl (kInt .i64) 8 3 m (some ⟨w.heap.size, 0, none⟩) 0 [(w.heap.size, .cells ([]).toArray 3 (0, 0))] ([] : List Int) := own_row (n := 0) RepL.nil rfl (Nat.le_of_ble_eq_true rfl) (Nat.le_of_ble_eq_true rfl)
  have hst7 := hst.alloc (.cells [].toArray 3 (0, 0))
  refine nd_op (op_v (w' := w.alloc (.cells [].toArray 3 (0, 0))) (some 5) (.slice (some ⟨w.heap.size, 0, none⟩) 0 0) hs0 (by kernel_rfl) (by kernel_rfl) fun a8 hs9 => ?_)
  generalize w.heap.size = b5 at hst7 hs9 ho11
  generalize w.alloc (.cells [].toArray 3 (0, 0)) = w6 at hst7 ⊢
  refine nd_q (c := 2) 1 [5, 6] hs9 [(5, .slice (some ⟨b5, 0, none⟩) 0 0), (6, .slice a_x0 x0.length c_x0)] (by kernel_rfl) fun a12 hs13 => ?_
  obtain ⟨r14, hcq15, hr⟩ := ofO_el hr
  obtain ⟨aq15, cq15, Iq15, wq15, hxq15, hstq15, hoq15⟩ := own_append_sl (P := Try.prog) (o := opAt (rops (sub [1, 1, 0] f27_c)) 2) (ρ := Env.rho hs13.env) (by kernel_rfl) hst7 ho11 (h_x0.mono hm0) hcq15
  refine nd_op (op_v (some 7) (.slice aq15 r14.length cq15) hs13 (by kernel_rfl) hxq15 fun a16 hs17 => ?_)
  refine nd_q (c := 0) 1 [2] hs17 [(2, .slice aq15 r14.length cq15)] (by kernel_rfl) fun a18 hs19 => ?_
  refine nd_done ?_
  exact to_ret (v := .slice aq15 r14.length cq15) (by kernel_rfl) hbf Try.func27 hbk hs19 (by kernel_rfl) (hQ hr hm0 hstq15 hoq15)
def f27  (x0 : (List Int)) : M (List Int) := fun Q => anyNil x0 (f27_j1 x0 Q true) (f27_j1 x0 Q false)
theorem f27_ok  {z : Base} {w : World} {m : Mem} {G : List Grp} {a_x0 : Option Addr} {c_x0 : Nat} {x0 : (List Int)} {Q : (List Int) → Prop} (hst : W.St z w m (G)) (h_x0 : Sl (kInt .i64) 8 m a_x0 c_x0 x0) (hr : f27  x0 Q) : Calls Try.prog 27 #[.slice a_x0 x0.length c_x0] w (f27_post z m G  Q) := by
  refine calls_begin (c := f27_c) (n := 8) [.slice a_x0 x0.length c_x0] Try.func27 (by kernel_rfl) Try.ntmps27 (Nat.le_of_ble_eq_true rfl) fun b cs a0 hbf hbk hs0 => ?_
  have hm0 := Mem.le.refl m
  have hQ : ∀ {r : (List Int)}, Q r → f27_YR z m G (f27_post z m G  Q)  r := by intro r hq m' w' a0_0 c0_0 I0_0 hm' hst' hf0_0; exact ⟨r, a0_0, c0_0, I0_0,  W.St.less hm' hst', rfl, (OwnSl.flat flat_int hf0_0), hq⟩
  unfold f27 at hr
  refine to_seq (sub [0] f27_c) (sub [1] f27_c) (by kernel_rfl) ?_
  refine to_nd 0 1 (rops (sub [0] f27_c)) (by kernel_rfl) (by kernel_rfl) ?_
  refine nd_q (c := 0) 1 [0] hs0 [(0, .slice a_x0 x0.length c_x0)] (by kernel_rfl) fun a1 hs2 => ?_
  refine nd_done ?_
  refine to_seq (sub [1, 0] f27_c) (sub [1, 1] f27_c) (by kernel_rfl) ?_
  refine to_seq (sub [1, 0, 0] f27_c) (sub [1, 0, 1] f27_c) (by kernel_rfl) ?_
  refine to_nd 1 2 (rops (sub [1, 0, 0] f27_c)) (by kernel_rfl) (by kernel_rfl) ?_
  refine nd_q (c := 1) 1 [0, 3] hs2 [(0, .slice a_x0 x0.length c_x0), (3, .slice a_x0 x0.length c_x0)] (by kernel_rfl) fun a3 hs4 => ?_
  refine nd_v (i := 1) (c := 0) 4 (.bool (isNil a_x0)) hs4 (by kernel_rfl) (nlq_run (P := Try.prog) true (by kernel_rfl)) fun a7 hs8 => ?_
  by_cases hb9 : a_x0 = none
  · replace hr := hr.1 (h_x0.nil_empty hb9)
    rw [nilT hb9] at hs8
    refine nd_done ?_
    have hs10 := hs8.kept [0, 4] [(0, .slice a_x0 x0.length c_x0), (4, .bool true)] (by kernel_rfl)
    exact f27_j1_ok hbf hbk h_x0  hQ hr (Mem.le.refl _) hst hs10 
  replace hr := hr.2
  rw [nilF hb9] at hs8
  refine nd_done ?_
  have hs11 := hs8.kept [0, 4] [(0, .slice a_x0 x0.length c_x0), (4, .bool false)] (by kernel_rfl)
  exact f27_j1_ok hbf hbk h_x0  hQ hr (Mem.le.refl _) hst hs11 
/-! ### 12: (*salchow/channel.Channel).Pending -/
noncomputable def f12_c : Code := codeOf Try.f12
def f12_post (z : Base) (m : Mem) (G : List Grp)  (Q : (List Int) → Prop) : Ending → World → Prop := fun e w' => ∃ (r : (List Int)) (a0_0 : Option Addr) (c0_0 : Nat) (I0_0 : Grp), W.St z w' m (I0_0 :: G) ∧ e = .returned (.slice a0_0 r.length c0_0) ∧ OwnSl (kInt .i64) 8 3 m a0_0 c0_0 I0_0 r ∧ Q r
def f12_YR (z : Base) (m0 : Mem) (G : List Grp) (R : Ending → World → Prop)  (r : (List Int)) : Prop := ∀ {m : Mem} {w : World} {a0_0 : Option Addr} {c0_0 : Nat} {I0_0 : Grp}, m0.le m → W.St z w m (I0_0 :: G) → (OwnSl (kInt .i64) 8 3 m a0_0 c0_0 I0_0 r) →  R (.returned (.slice a0_0 r.length c0_0)) w
theorem f12_YR_mono {z : Base} {m0 m1 : Mem} {G : List Grp} {R : Ending → World → Prop}  {r : (List Int)} (hm : m0.le m1) (h : f12_YR z m0 G R  r) : f12_YR z m1 G R  r := by
  intro m w a0_0 c0_0 I0_0 hm'
  exact h (hm.trans hm')
def f12  (x0 : S62) : M (List Int) := fun Q => f27 x0.f2 fun r7 => Q r7
theorem f12_ok  {z : Base} {w : World} {m : Mem} {G : List Grp} {ad_x0 : Addr} {a_x0_0 : Option Addr} {c_x0_0 : Nat} {r_x0_1 : Option Nat} {a_x0_2 : Option Addr} {c_x0_2 : Nat} {x0 : S62} {Q : (List Int) → Prop} (hst : W.St z w m (G)) (hA_x0 : At m ad_x0 6 (cells [.slice a_x0_0 x0.f0.length c_x0_0, .map r_x0_1, .slice a_x0_2 x0.f2.length c_x0_2, .int .i64 x0.f3, .int .i64 x0.f4, .int .i64 x0.f5])) (h_x0_0 : Sl kBool 1 m a_x0_0 c_x0_0 x0.f0) (h_x0_1 : ImmM (Value.int .i64) k36 m r_x0_1 x0.f1) (h_x0_2 : Sl (kInt .i64) 8 m a_x0_2 c_x0_2 x0.f2) (h_x0_3 : InR .i64 x0.f3) (h_x0_4 : InR .i64 x0.f4) (h_x0_5 : InR .i64 x0.f5) (hr : f12  x0 Q) : Calls Try.prog 12 #[.pointer (some ad_x0)] w (f12_post z m G  Q) := by
  refine calls_begin (c := f12_c) (n := 8) [.pointer (some ad_x0)] Try.func12 (by kernel_rfl) Try.ntmps12 (Nat.le_of_ble_eq_true rfl) fun b cs a0 hbf hbk hs0 => ?_
  have hm0 := Mem.le.refl m
  have hQ : ∀ {r : (List Int)}, Q r → f12_YR z m G (f12_post z m G  Q)  r := by intro r hq m' w' a0_0 c0_0 I0_0 hm' hst' hf0_0; exact ⟨r, a0_0, c0_0, I0_0,  W.St.less hm' hst', rfl, (OwnSl.flat flat_int hf0_0), hq⟩
  unfold f12 at hr
  refine to_seq (sub [0] f12_c) (sub [1] f12_c) (by kernel_rfl) ?_
  refine to_nd 0 1 (rops (sub [0] f12_c)) (by kernel_rfl) (by kernel_rfl) ?_
  refine nd_q (c := 0) 1 [0] hs0 [(0, .pointer (some ad_x0))] (by kernel_rfl) fun a1 hs2 => ?_
  refine nd_done ?_
  refine to_seq (sub [1, 0] f12_c) (sub [1, 1] f12_c) (by kernel_rfl) ?_
  refine to_nd 1 6 (rops (sub [1, 0] f12_c)) (by kernel_rfl) (by kernel_rfl) ?_
  refine nd_q (c := 3) 3 [5] hs2 [(5, .pointer (some ⟨ad_x0.block, ad_x0.off + 2, none⟩))] (by kernel_rfl) fun a3 hs4 => ?_
  refine nd_v (i := 3) (c := 2) 6 (.slice a_x0_2 x0.f2.length c_x0_2) hs4 (by kernel_rfl) (ld1_run (P := Try.prog) (ad := ⟨ad_x0.block, ad_x0.off + 2, none⟩) (by kernel_rfl) (hA_x0.cell hst (j := 2) (Nat.le_of_ble_eq_true rfl))) fun a5 hs6 => ?_
  refine nd_op (op_call (some 7) hs6 (by kernel_rfl) (by kernel_rfl) ((f27_ok hst h_x0_2 hr).mono ?_))
  rintro _ w8 ⟨r7, a7_0_0, c7_0_0, I7_0_0, hst11, rfl, hf7_0_0, hr⟩
  revert hr; intro hr
  refine ⟨_, rfl, fun a9 hs10 => ?_⟩
  refine nd_q (c := 0) 1 [2] hs10 [(2, .slice a7_0_0 r7.length c7_0_0)] (by kernel_rfl) fun a14 hs15 => ?_
  refine nd_done ?_
  exact to_ret (v := .slice a7_0_0 r7.length c7_0_0) (by kernel_rfl) hbf Try.func12 hbk hs15 (by kernel_rfl) (hQ hr (Mem.le.refl _) hst11 hf7_0_0)
end Go.Proofs.Ytcnlbnccghjeaaa.W
