/- Printed by gen2.py: a law as a Lean function, and the proof that the call comes to it. Conditions: none. -/
import Derived.Test.YtcnlbnccghjeaaaF7
set_option linter.unusedVariables false
set_option linter.unusedSimpArgs false
set_option maxRecDepth 100000
namespace Go.Proofs.Ytcnlbnccghjeaaa.W
open Go

/-! ### 3: salchow/salchowlaw50.ChannelNew -/
noncomputable def f3_c : Code := codeOf Try.f3
def f3_post (z : Base) (m : Mem) (G : List Grp)  (Q : Bool → Prop) : Ending → World → Prop := fun e w' => ∃ (r : Bool) , W.St z w' m (G) ∧ e = .returned (.bool r) ∧ Q r
def f3_YR (z : Base) (m0 : Mem) (G : List Grp) (R : Ending → World → Prop)  (r : Bool) : Prop := ∀ {m : Mem} {w : World} , m0.le m → W.St z w m (G) →  R (.returned (.bool r)) w
theorem f3_YR_mono {z : Base} {m0 m1 : Mem} {G : List Grp} {R : Ending → World → Prop}  {r : Bool} (hm : m0.le m1) (h : f3_YR z m0 G R  r) : f3_YR z m1 G R  r := by
  intro m w  hm'
  exact h (hm.trans hm')
def f3_j1_Y (z : Base) (m0 : Mem) (G : List Grp) (b : Frame) (cs : List Frame) (R : Ending → World → Prop) (x0 : Int) (c'3 : (Option S62)) (e'4 : Int) (t'20 : Bool) : Prop := ∀ {m : Mem} {w : World} {a : Act} {p_c'3 : Option Addr} {I_c'3 : Grp}, m0.le m → W.St z w m (I_c'3 :: G) → Has 53 a [(3, .pointer p_c'3), (4, .int .i64 e'4), (20, .bool t'20)] → (OwnN62 m p_c'3 I_c'3 c'3) → (InR .i64 e'4) → Reach Try.prog b cs R [.code (sub [1, 1, 1, 0, 1] f3_c), .code (sub [1, 1, 1, 1] f3_c)] a w
def f3_j1 (x0 : Int) (Q : Bool → Prop) (c'3 : (Option S62)) (e'4 : Int) (t'20 : Bool) : Prop := if t'20 = true then (if e'4 = (1 : Int) then (onPtr c'3 (Q true) (fun y11 => Q false)) else (Q false)) else (onPtr c'3 False (fun y26 => f11 y26 fun r36 => if e'4 = (0 : Int) then (f12 y26 fun r57 => if (r57.length : Int) = (0 : Int) then (if r36.1 = (0 : Int) then (if r36.2.1 = (0 : Int) then (Q (r36.2.2 == (0 : Int))) else (Q false)) else (Q false)) else (Q false)) else (Q false)))
theorem f3_j1_ok {z : Base} {m0 : Mem} {G : List Grp} {b : Frame} {cs : List Frame} {R : Ending → World → Prop} {x0 : Int} {Q : Bool → Prop} (hbf : b.fn = 3) (hbk : b.kind = .normal) (h_x0 : InR .i64 x0)  (hQ : ∀ {r : Bool}, Q r → f3_YR z m0 G R  r) : ∀ {c'3 : (Option S62)} {e'4 : Int} {t'20 : Bool}, f3_j1 x0 Q c'3 e'4 t'20 → f3_j1_Y z m0 G b cs R x0 c'3 e'4 t'20 := by
  intro c'3 e'4 t'20 hr m w a0 p_c'3 I_c'3 hm0 hst hs0 h_c'3 h_e'4
  unfold f3_j1 at hr
  by_cases hb1 : t'20 = true
  · rw [if_pos hb1] at hr
    rw [(bT hb1)] at hs0
    refine to_then (.tmp 20) (sub [1, 1, 1, 0, 1, 0] f3_c) (sub [1, 1, 1, 0, 1, 1] f3_c) (by kernel_rfl) hs0 (by kernel_rfl) ?_
    refine to_seq (sub [1, 1, 1, 0, 1, 0, 0] f3_c) (sub [1, 1, 1, 0, 1, 0, 1] f3_c) (by kernel_rfl) ?_
    refine to_nd 5 7 (rops (sub [1, 1, 1, 0, 1, 0, 0] f3_c)) (by kernel_rfl) (by kernel_rfl) ?_
    refine nd_q (c := 4) 3 [3, 23] hs0 [(3, .pointer p_c'3), (23, .bool (e'4 == (1 : Int)))] (by kernel_rfl) fun a2 hs3 => ?_
    by_cases hb4 : e'4 = (1 : Int)
    rotate_left
    · rw [if_neg hb4] at hr
      rw [(eqF hb4)] at hs3
      refine nd_q (c := 0) 4 [2] hs3 [(2, .bool false)] (by kernel_rfl) fun a21 hs22 => ?_
      refine nd_done ?_
      have hst23 := W.St.drop [] hst
      exact to_ret (v := .bool false) (by kernel_rfl) hbf Try.func3 hbk hs22 (by kernel_rfl) (hQ hr hm0 hst23 )
    rw [if_pos hb4] at hr
    rw [(eqT hb4)] at hs3
    refine nd_q (c := 3) 1 [23, 24] hs3 [(23, .bool true), (24, .pointer p_c'3)] (by kernel_rfl) fun a5 hs6 => ?_
    refine nd_v (i := 4) (c := 2) 25 (.bool (isNil p_c'3)) hs6 (by kernel_rfl) (nlq_run (P := Try.prog) true (by kernel_rfl)) fun a9 hs10 => ?_
    obtain ⟨hx12, rfl, rfl⟩ | ⟨b16, y11, hx12, rfl, ho17⟩ := h_c'3
    · replace hr := onPtr_none hx12 hr
      rw [show isNil none = true from rfl] at hs10
      have hst13 := (W.St.front [] hst).unnil
      refine nd_q (c := 0) 2 [2] hs10 [(2, .bool true)] (by kernel_rfl) fun a14 hs15 => ?_
      refine nd_done ?_
      exact to_ret (v := .bool true) (by kernel_rfl) hbf Try.func3 hbk hs15 (by kernel_rfl) (hQ hr hm0 hst13 )
    replace hr := onPtr_some hx12 hr
    simp only [isNil] at hs10
    refine nd_q (c := 0) 2 [2] hs10 [(2, .bool false)] (by kernel_rfl) fun a18 hs19 => ?_
    refine nd_done ?_
    have hst20 := W.St.drop [] hst
    exact to_ret (v := .bool false) (by kernel_rfl) hbf Try.func3 hbk hs19 (by kernel_rfl) (hQ hr hm0 hst20 )
  rw [if_neg hb1] at hr
  rw [(bF hb1)] at hs0
  refine to_else (.tmp 20) (sub [1, 1, 1, 0, 1, 0] f3_c) (sub [1, 1, 1, 0, 1, 1] f3_c) (by kernel_rfl) hs0 (by kernel_rfl) ?_
  refine to_skip (by kernel_rfl) ?_
  refine to_seq (sub [1, 1, 1, 1, 0] f3_c) (sub [1, 1, 1, 1, 1] f3_c) (by kernel_rfl) ?_
  refine to_nd 6 9 (rops (sub [1, 1, 1, 1, 0] f3_c)) (by kernel_rfl) (by kernel_rfl) ?_
  refine nd_q (c := 8) 1 [3, 4, 28] hs0 [(3, .pointer p_c'3), (4, .int .i64 e'4), (28, .pointer p_c'3)] (by kernel_rfl) fun a24 hs25 => ?_
  obtain ⟨hx27, _⟩ | ⟨b28, y26, hx27, rfl, ho29⟩ := h_c'3
  · exact (onPtr_none hx27 hr).elim
  replace hr := onPtr_some hx27 hr
  have hz31 := ho29.lend hst
  have hst32 := W.St.freeze hst
  have hm33 := Mem.le_add m I_c'3
  generalize hq34 : Mem.add m I_c'3 = m30 at hz31 hst32 hm33
  obtain ⟨aq35_0, cq35_0, rq35_1, aq35_2, cq35_2, hAq35, hfq35_0, hfq35_1, hfq35_2, hfq35_3, hfq35_4, hfq35_5⟩ := hz31
  refine nd_op (op_call (some 29) hs25 (by kernel_rfl) (by kernel_rfl) ((f11_ok hst32 hAq35 hfq35_0 hfq35_1 hfq35_2 hfq35_3 hfq35_4 hfq35_5 hr).mono ?_))
  rintro _ w37 ⟨r36, hst40, rfl, hf36_0_0, hf36_1_0, hf36_2_0, hr⟩
  revert hr; intro hr
  refine ⟨_, rfl, fun a38 hs39 => ?_⟩
  have hst43 := W.St.thaw2 hst (by rw [hq34]; exact Mem.le.refl _) hst40
  refine nd_q (c := 0) 7 [3, 4, 5, 6, 7] hs39 [(3, .pointer (some ⟨b28, 0, none⟩)), (4, .int .i64 e'4), (5, .int .i64 r36.1), (6, .int .i64 r36.2.1), (7, .int .i64 r36.2.2)] (by kernel_rfl) fun a44 hs45 => ?_
  refine nd_done ?_
  refine to_seq (sub [1, 1, 1, 1, 1, 0] f3_c) (sub [1, 1, 1, 1, 1, 1] f3_c) (by kernel_rfl) ?_
  refine to_nd 7 21 (rops (sub [1, 1, 1, 1, 1, 0] f3_c)) (by kernel_rfl) (by kernel_rfl) ?_
  refine nd_q (c := 18) 3 [3, 5, 6, 7, 35] hs45 [(3, .pointer (some ⟨b28, 0, none⟩)), (5, .int .i64 r36.1), (6, .int .i64 r36.2.1), (7, .int .i64 r36.2.2), (35, .bool (e'4 == (0 : Int)))] (by kernel_rfl) fun a46 hs47 => ?_
  by_cases hb48 : e'4 = (0 : Int)
  rotate_left
  · rw [if_neg hb48] at hr
    rw [(eqF hb48)] at hs47
    refine nd_q (c := 0) 18 [2] hs47 [(2, .bool false)] (by kernel_rfl) fun a90 hs91 => ?_
    refine nd_done ?_
    have hst92 := W.St.drop [] hst43
    exact to_ret (v := .bool false) (by kernel_rfl) hbf Try.func3 hbk hs91 (by kernel_rfl) (hQ hr hm0 hst92 )
  rw [if_pos hb48] at hr
  rw [(eqT hb48)] at hs47
  refine nd_q (c := 17) 1 [5, 6, 7, 35, 36] hs47 [(5, .int .i64 r36.1), (6, .int .i64 r36.2.1), (7, .int .i64 r36.2.2), (35, .bool true), (36, .pointer (some ⟨b28, 0, none⟩))] (by kernel_rfl) fun a49 hs50 => ?_
  have hz52 := ho29.lend hst43
  have hst53 := W.St.freeze hst43
  have hm54 := Mem.le_add m I_c'3
  generalize hq55 : Mem.add m I_c'3 = m51 at hz52 hst53 hm54
  obtain ⟨aq56_0, cq56_0, rq56_1, aq56_2, cq56_2, hAq56, hfq56_0, hfq56_1, hfq56_2, hfq56_3, hfq56_4, hfq56_5⟩ := hz52
  refine nd_op (op_call (some 37) hs50 (by kernel_rfl) (by kernel_rfl) ((f12_ok hst53 hAq56 hfq56_0 hfq56_1 hfq56_2 hfq56_3 hfq56_4 hfq56_5 hr).mono ?_))
  rintro _ w58 ⟨r57, a57_0_0, c57_0_0, I57_0_0, hst61, rfl, hf57_0_0, hr⟩
  revert hr; intro hr
  refine ⟨_, rfl, fun a59 hs60 => ?_⟩
  have hst64 := W.St.thaw2 hst43 (by rw [hq55]; exact Mem.le.refl _) hst61
  refine nd_q (c := 12) 4 [5, 6, 7, 41] hs60 [(5, .int .i64 r36.1), (6, .int .i64 r36.2.1), (7, .int .i64 r36.2.2), (41, .bool ((r57.length : Int) == (0 : Int)))] (by kernel_rfl) fun a65 hs66 => ?_
  by_cases hb67 : (r57.length : Int) = (0 : Int)
  rotate_left
  · rw [if_neg hb67] at hr
    rw [(eqF hb67)] at hs66
    refine nd_q (c := 0) 12 [2] hs66 [(2, .bool false)] (by kernel_rfl) fun a86 hs87 => ?_
    refine nd_done ?_
    have hst88 := W.St.drop [] hst64
    have hst89 := W.St.drop [] hst88
    exact to_ret (v := .bool false) (by kernel_rfl) hbf Try.func3 hbk hs87 (by kernel_rfl) (hQ hr hm0 hst89 )
  rw [if_pos hb67] at hr
  rw [(eqT hb67)] at hs66
  refine nd_q (c := 8) 4 [6, 7, 45] hs66 [(6, .int .i64 r36.2.1), (7, .int .i64 r36.2.2), (45, .bool (r36.1 == (0 : Int)))] (by kernel_rfl) fun a68 hs69 => ?_
  by_cases hb70 : r36.1 = (0 : Int)
  rotate_left
  · rw [if_neg hb70] at hr
    rw [(eqF hb70)] at hs69
    refine nd_q (c := 0) 8 [2] hs69 [(2, .bool false)] (by kernel_rfl) fun a82 hs83 => ?_
    refine nd_done ?_
    have hst84 := W.St.drop [] hst64
    have hst85 := W.St.drop [] hst84
    exact to_ret (v := .bool false) (by kernel_rfl) hbf Try.func3 hbk hs83 (by kernel_rfl) (hQ hr hm0 hst85 )
  rw [if_pos hb70] at hr
  rw [(eqT hb70)] at hs69
  refine nd_q (c := 4) 4 [7, 49] hs69 [(7, .int .i64 r36.2.2), (49, .bool (r36.2.1 == (0 : Int)))] (by kernel_rfl) fun a71 hs72 => ?_
  by_cases hb73 : r36.2.1 = (0 : Int)
  · rw [if_pos hb73] at hr
    rw [(eqT hb73)] at hs72
    refine nd_q (c := 0) 4 [2] hs72 [(2, .bool (r36.2.2 == (0 : Int)))] (by kernel_rfl) fun a74 hs75 => ?_
    refine nd_done ?_
    have hst76 := W.St.drop [] hst64
    have hst77 := W.St.drop [] hst76
    exact to_ret (v := .bool (r36.2.2 == (0 : Int))) (by kernel_rfl) hbf Try.func3 hbk hs75 (by kernel_rfl) (hQ hr hm0 hst77 )
  rw [if_neg hb73] at hr
  rw [(eqF hb73)] at hs72
  refine nd_q (c := 0) 4 [2] hs72 [(2, .bool false)] (by kernel_rfl) fun a78 hs79 => ?_
  refine nd_done ?_
  have hst80 := W.St.drop [] hst64
  have hst81 := W.St.drop [] hst80
  exact to_ret (v := .bool false) (by kernel_rfl) hbf Try.func3 hbk hs79 (by kernel_rfl) (hQ hr hm0 hst81 )
def f3  (x0 : Int) : M Bool := fun Q => f9 fun r3 => if r3 = true then (f10 x0 fun r15 => if x0 < (1 : Int) then (f3_j1 x0 Q r15.1 r15.2 true) else (f3_j1 x0 Q r15.1 r15.2 (decide (x0 > (16 : Int))))) else (Q false)
theorem f3_ok  {z : Base} {w : World} {m : Mem} {G : List Grp} {x0 : Int} {Q : Bool → Prop} (hst : W.St z w m (G)) (h_x0 : InR .i64 x0) (hr : f3  x0 Q) : Calls Try.prog 3 #[.int .i64 x0] w (f3_post z m G  Q) := by
  refine calls_begin (c := f3_c) (n := 53) [.int .i64 x0] Try.func3 (by kernel_rfl) Try.ntmps3 (Nat.le_of_ble_eq_true rfl) fun b cs a0 hbf hbk hs0 => ?_
  have hm0 := Mem.le.refl m
  have hQ : ∀ {r : Bool}, Q r → f3_YR z m G (f3_post z m G  Q)  r := by intro r hq m' w'  hm' hst' ; exact ⟨r,  W.St.less hm' hst', rfl, hq⟩
  unfold f3 at hr
  refine to_seq (sub [0] f3_c) (sub [1] f3_c) (by kernel_rfl) ?_
  refine to_nd 0 1 (rops (sub [0] f3_c)) (by kernel_rfl) (by kernel_rfl) ?_
  refine nd_q (c := 0) 1 [0] hs0 [(0, .int .i64 x0)] (by kernel_rfl) fun a1 hs2 => ?_
  refine nd_done ?_
  refine to_seq (sub [1, 0] f3_c) (sub [1, 1] f3_c) (by kernel_rfl) ?_
  refine to_seq (sub [1, 0, 0] f3_c) (sub [1, 0, 1] f3_c) (by kernel_rfl) ?_
  refine to_nd 1 2 (rops (sub [1, 0, 0] f3_c)) (by kernel_rfl) (by kernel_rfl) ?_
  refine nd_op (op_call (some 8) hs2 (by kernel_rfl) (by kernel_rfl) ((f9_ok hst hr).mono ?_))
  rintro _ w4 ⟨r3, hst7, rfl, hr⟩
  revert hr; intro hr
  refine ⟨_, rfl, fun a5 hs6 => ?_⟩
  refine nd_q (c := 0) 1 [0, 9] hs6 [(0, .int .i64 x0), (9, .bool (!r3))] (by kernel_rfl) fun a10 hs11 => ?_
  refine nd_done ?_
  by_cases hb12 : r3 = true
  rotate_left
  · rw [if_neg hb12] at hr
    rw [(bF hb12)] at hs11
    refine to_then (.tmp 9) (sub [1, 0, 1, 0] f3_c) (sub [1, 0, 1, 1] f3_c) (by kernel_rfl) hs11 (by kernel_rfl) ?_
    refine to_seq (sub [1, 0, 1, 0, 0] f3_c) (sub [1, 0, 1, 0, 1] f3_c) (by kernel_rfl) ?_
    refine to_nd 2 1 (rops (sub [1, 0, 1, 0, 0] f3_c)) (by kernel_rfl) (by kernel_rfl) ?_
    refine nd_q (c := 0) 1 [2] hs11 [(2, .bool false)] (by kernel_rfl) fun a33 hs34 => ?_
    refine nd_done ?_
    exact to_ret (v := .bool false) (by kernel_rfl) hbf Try.func3 hbk hs34 (by kernel_rfl) (hQ hr (Mem.le.refl _) hst7 )
  rw [if_pos hb12] at hr
  rw [(bT hb12)] at hs11
  refine to_else (.tmp 9) (sub [1, 0, 1, 0] f3_c) (sub [1, 0, 1, 1] f3_c) (by kernel_rfl) hs11 (by kernel_rfl) ?_
  refine to_skip (by kernel_rfl) ?_
  refine to_seq (sub [1, 1, 0] f3_c) (sub [1, 1, 1] f3_c) (by kernel_rfl) ?_
  refine to_nd 3 7 (rops (sub [1, 1, 0] f3_c)) (by kernel_rfl) (by kernel_rfl) ?_
  refine nd_q (c := 6) 1 [0, 11] hs11 [(0, .int .i64 x0), (11, .int .i64 x0)] (by kernel_rfl) fun a13 hs14 => ?_
  refine nd_op (op_call (some 12) hs14 (by kernel_rfl) (by kernel_rfl) ((f10_ok hst7 h_x0 hr).mono ?_))
  rintro _ w16 ⟨r15, p15_0_0, I15_0_0, hst19, rfl, hf15_0_0, hf15_1_0, hr⟩
  revert hr; intro hr
  refine ⟨_, rfl, fun a17 hs18 => ?_⟩
  refine nd_q (c := 0) 5 [0, 3, 4] hs18 [(0, .int .i64 x0), (3, .pointer p15_0_0), (4, .int .i64 r15.2)] (by kernel_rfl) fun a22 hs23 => ?_
  refine nd_done ?_
  refine to_seq (sub [1, 1, 1, 0] f3_c) (sub [1, 1, 1, 1] f3_c) (by kernel_rfl) ?_
  refine to_seq (sub [1, 1, 1, 0, 0] f3_c) (sub [1, 1, 1, 0, 1] f3_c) (by kernel_rfl) ?_
  refine to_nd 4 6 (rops (sub [1, 1, 1, 0, 0] f3_c)) (by kernel_rfl) (by kernel_rfl) ?_
  refine nd_q (c := 3) 3 [0, 3, 4, 17] hs23 [(0, .int .i64 x0), (3, .pointer p15_0_0), (4, .int .i64 r15.2), (17, .bool (decide (x0 < (1 : Int))))] (by kernel_rfl) fun a24 hs25 => ?_
  by_cases hb26 : x0 < (1 : Int)
  · rw [if_pos hb26] at hr
    rw [(decide_eq_true hb26)] at hs25
    refine nd_q (c := 0) 3 [3, 4, 20] hs25 [(3, .pointer p15_0_0), (4, .int .i64 r15.2), (20, .bool true)] (by kernel_rfl) fun a27 hs28 => ?_
    refine nd_done ?_
    have hs29 := hs28.kept [3, 4, 20] [(3, .pointer p15_0_0), (4, .int .i64 r15.2), (20, .bool true)] (by kernel_rfl)
    exact f3_j1_ok hbf hbk h_x0  hQ hr (Mem.le.refl _) hst19 hs29 hf15_0_0 hf15_1_0
  rw [if_neg hb26] at hr
  rw [(decide_eq_false hb26)] at hs25
  refine nd_q (c := 0) 3 [3, 4, 20] hs25 [(3, .pointer p15_0_0), (4, .int .i64 r15.2), (20, .bool (decide (x0 > (16 : Int))))] (by kernel_rfl) fun a30 hs31 => ?_
  refine nd_done ?_
  have hs32 := hs31.kept [3, 4, 20] [(3, .pointer p15_0_0), (4, .int .i64 r15.2), (20, .bool (decide (x0 > (16 : Int))))] (by kernel_rfl)
  exact f3_j1_ok hbf hbk h_x0  hQ hr (Mem.le.refl _) hst19 hs32 hf15_0_0 hf15_1_0
def PureChannelNew : Prop := ∀ (x0 : Int), (InR .i64) x0 →  f3 x0 (fun r => r = true)
end Go.Proofs.Ytcnlbnccghjeaaa.W
