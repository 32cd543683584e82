/- Printed by gen2.py: a law as a Lean function, and the proof that the call comes to it. Conditions: none. -/
import Derived.Test.YtcnlbnccghjeaaaF7
set_option linter.unusedVariables false
set_option linter.unusedSimpArgs false
set_option maxRecDepth 100000
namespace Go.Proofs.Ytcnlbnccghjeaaa.W
open Go

/-! ### 7: salchow/salchowlaw50.ChannelConnects -/
noncomputable def f7_c : Code := codeOf Try.f7
def f7_post (z : Base) (m : Mem) (G : List Grp)  (Q : Bool → Prop) : Ending → World → Prop := fun e w' => ∃ (r : Bool) , W.St z w' m (G) ∧ e = .returned (.bool r) ∧ Q r
def f7_YR (z : Base) (m0 : Mem) (G : List Grp) (R : Ending → World → Prop)  (r : Bool) : Prop := ∀ {m : Mem} {w : World} , m0.le m → W.St z w m (G) →  R (.returned (.bool r)) w
theorem f7_YR_mono {z : Base} {m0 m1 : Mem} {G : List Grp} {R : Ending → World → Prop}  {r : Bool} (hm : m0.le m1) (h : f7_YR z m0 G R  r) : f7_YR z m1 G R  r := by
  intro m w  hm'
  exact h (hm.trans hm')
def f7_l2_Y (z : Base) (m0 : Mem) (G : List Grp) (b : Frame) (cs : List Frame) (R : Ending → World → Prop) (a_list'1 : Option Addr) (c_list'1 : Nat) (a_order'2 : Option Addr) (c_order'2 : Nat) (displays'0 : Int) (list'1 : (List S40)) (order'2 : (List Int)) (c'7 : (Option S62)) (i'9 : Int) : Prop := ∀ {m : Mem} {w : World} {a : Act} {p_c'7 : Option Addr} {I_c'7 : Grp}, m0.le m → W.St z w m (I_c'7 :: G) → Has 112 a [(0, .int .i64 displays'0), (1, .slice a_list'1 list'1.length c_list'1), (2, .slice a_order'2 order'2.length c_order'2), (7, .pointer p_c'7), (9, .int .i64 i'9)] → (OwnN62 m p_c'7 I_c'7 c'7) → (InR .i64 i'9) → Reach Try.prog b cs R [.code (sub [1, 1, 1, 1, 0, 1, 0, 0] f7_c), .inLoop (sub [1, 1, 1, 1, 0, 1, 0, 0] f7_c), .inBlock 0, .code (sub [1, 1, 1, 1, 1] f7_c)] a w
def f7_l2_Yk1 (z : Base) (m0 : Mem) (G : List Grp) (b : Frame) (cs : List Frame) (R : Ending → World → Prop) (a_list'1 : Option Addr) (c_list'1 : Nat) (a_order'2 : Option Addr) (c_order'2 : Nat) (displays'0 : Int) (list'1 : (List S40)) (order'2 : (List Int)) (c'7 : (Option S62)) : Prop := ∀ {m : Mem} {w : World} {a : Act} {p_c'7 : Option Addr} {I_c'7 : Grp}, m0.le m → W.St z w m (I_c'7 :: G) → Has 112 a [(0, .int .i64 displays'0), (2, .slice a_order'2 order'2.length c_order'2), (7, .pointer p_c'7)] → (OwnN62 m p_c'7 I_c'7 c'7) → Reach Try.prog b cs R [.code (sub [1, 1, 1, 1, 1] f7_c)] a w
def f7_l2_b (displays'0 : Int) (list'1 : (List S40)) (order'2 : (List Int)) (k1 : (Option S62) → Prop) (X : (Option S62) → Int → Prop) (c'7 : (Option S62)) (i'9 : Int) : Prop := if i'9 < (list'1.length : Int) then (ofO (ix list'1 i'9) fun x6 => onPtr c'7 False (fun y11 => f15 y11 x6 fun r15 => X (some r15.2.2.2) (w64 (i'9 + (1 : Int))))) else (k1 c'7)
def f7_l2 (displays'0 : Int) (list'1 : (List S40)) (order'2 : (List Int)) (k1 : (Option S62) → Prop) (c'7 : (Option S62)) (i'9 : Int) : Prop := ∀ X : (Option S62) → Int → Prop, (∀ {c'7 : (Option S62)} {i'9 : Int}, f7_l2_b displays'0 list'1 order'2 k1 X c'7 i'9 → X c'7 i'9) → X c'7 i'9
theorem f7_l2_ok {z : Base} {m0 : Mem} {G : List Grp} {b : Frame} {cs : List Frame} {R : Ending → World → Prop} {a_list'1 : Option Addr} {c_list'1 : Nat} {a_order'2 : Option Addr} {c_order'2 : Nat} {displays'0 : Int} {list'1 : (List S40)} {order'2 : (List Int)} {k1 : (Option S62) → Prop}  (hbf : b.fn = 7) (hbk : b.kind = .normal) (h_displays'0 : InR .i64 displays'0) (h_list'1 : Sl k40 48 m0 a_list'1 c_list'1 list'1) (h_order'2 : Sl (kInt .i64) 8 m0 a_order'2 c_order'2 order'2)  (hk1 : ∀ {c'7 : (Option S62)}, k1 c'7 → f7_l2_Yk1 z m0 G b cs R a_list'1 c_list'1 a_order'2 c_order'2 displays'0 list'1 order'2 c'7) : ∀ {c'7 : (Option S62)} {i'9 : Int}, f7_l2 displays'0 list'1 order'2 k1 c'7 i'9 → f7_l2_Y z m0 G b cs R a_list'1 c_list'1 a_order'2 c_order'2 displays'0 list'1 order'2 c'7 i'9 := by
  intro c'7 i'9 hr
  refine hr (f7_l2_Y z m0 G b cs R a_list'1 c_list'1 a_order'2 c_order'2 displays'0 list'1 order'2) ?_
  intro c'7 i'9 hr m w a0 p_c'7 I_c'7 hm0 hst hs0 h_c'7 h_i'9
  have hX : ∀ {c'7 : (Option S62)} {i'9 : Int}, f7_l2_Y z m0 G b cs R a_list'1 c_list'1 a_order'2 c_order'2 displays'0 list'1 order'2 c'7 i'9 → f7_l2_Y z m0 G b cs R a_list'1 c_list'1 a_order'2 c_order'2 displays'0 list'1 order'2 c'7 i'9 := fun h => h
  unfold f7_l2_b at hr
  refine to_seq (sub [1, 1, 1, 1, 0, 1, 0, 0, 0] f7_c) (sub [1, 1, 1, 1, 0, 1, 0, 0, 1] f7_c) (by kernel_rfl) ?_
  refine to_seq (sub [1, 1, 1, 1, 0, 1, 0, 0, 0, 0] f7_c) (sub [1, 1, 1, 1, 0, 1, 0, 0, 0, 1] f7_c) (by kernel_rfl) ?_
  refine to_nd 7 4 (rops (sub [1, 1, 1, 1, 0, 1, 0, 0, 0, 0] f7_c)) (by kernel_rfl) (by kernel_rfl) ?_
  refine nd_q (c := 0) 4 [0, 1, 2, 7, 9, 35] hs0 [(0, .int .i64 displays'0), (1, .slice a_list'1 list'1.length c_list'1), (2, .slice a_order'2 order'2.length c_order'2), (7, .pointer p_c'7), (9, .int .i64 i'9), (35, .bool (decide (i'9 < (list'1.length : Int))))] (by kernel_rfl) fun a1 hs2 => ?_
  refine nd_done ?_
  by_cases hb3 : i'9 < (list'1.length : Int)
  rotate_left
  · rw [if_neg hb3] at hr
    rw [(decide_eq_false hb3)] at hs2
    refine to_else (.tmp 35) (sub [1, 1, 1, 1, 0, 1, 0, 0, 0, 1, 0] f7_c) (sub [1, 1, 1, 1, 0, 1, 0, 0, 0, 1, 1] f7_c) (by kernel_rfl) hs2 (by kernel_rfl) ?_
    refine to_exit 0 (by kernel_rfl) [.code (sub [1, 1, 1, 1, 1] f7_c)] rfl ?_
    have hs25 := hs2.kept [0, 2, 7] [(0, .int .i64 displays'0), (2, .slice a_order'2 order'2.length c_order'2), (7, .pointer p_c'7)] (by kernel_rfl)
    exact hk1 hr hm0 hst hs25 h_c'7
  rw [if_pos hb3] at hr
  rw [(decide_eq_true hb3)] at hs2
  refine to_then (.tmp 35) (sub [1, 1, 1, 1, 0, 1, 0, 0, 0, 1, 0] f7_c) (sub [1, 1, 1, 1, 0, 1, 0, 0, 0, 1, 1] f7_c) (by kernel_rfl) hs2 (by kernel_rfl) ?_
  refine to_skip (by kernel_rfl) ?_
  refine to_seq (sub [1, 1, 1, 1, 0, 1, 0, 0, 1, 0] f7_c) (sub [1, 1, 1, 1, 0, 1, 0, 0, 1, 1] f7_c) (by kernel_rfl) ?_
  refine to_block 1 (sub [1, 1, 1, 1, 0, 1, 0, 0, 1, 0, 0] f7_c) (by kernel_rfl) ?_
  refine to_nd 9 6 (rops (sub [1, 1, 1, 1, 0, 1, 0, 0, 1, 0, 0] f7_c)) (by kernel_rfl) (by kernel_rfl) ?_
  refine nd_q (c := 3) 3 [0, 1, 2, 7, 9, 38, 39, 40] hs2 [(0, .int .i64 displays'0), (1, .slice a_list'1 list'1.length c_list'1), (2, .slice a_order'2 order'2.length c_order'2), (7, .pointer p_c'7), (9, .int .i64 i'9), (38, .pointer p_c'7), (39, .slice a_list'1 list'1.length c_list'1), (40, .int .i64 i'9)] (by kernel_rfl) fun a4 hs5 => ?_
  obtain ⟨x6, hx6, hr⟩ := ofO_el hr
  obtain ⟨ad6, c6, hA6, hR6, hX6⟩ := Row.ix (h_list'1.mono hm0).1 hx6
  obtain ⟨he6, hf6_0, hf6_1, hf6_2, hf6_3, hf6_4⟩ := k40_open hR6
  have hB6 := hA6.conv he6
  refine nd_v (i := 3) (c := 2) 41 (.pointer (some ad6)) hs5 (by kernel_rfl) (hX6 (P := Try.prog) (w := w) (by kernel_rfl)) fun a7 hs8 => ?_
  refine nd_v (i := 4) (c := 1) 42 (.agg #[.int .i64 x6.f0, .int .i64 x6.f1, .int .i64 x6.f2, .string x6.f3, .int .u8 x6.f4, .bool x6.f5]) hs8 (by kernel_rfl) (ldN_run (P := Try.prog) (ad := ad6) (l := [.int .i64 x6.f0, .int .i64 x6.f1, .int .i64 x6.f2, .string x6.f3, .int .u8 x6.f4, .bool x6.f5]) 6 rfl (by kernel_rfl) (hB6.all hst)) fun a9 hs10 => ?_
  obtain ⟨hx12, _⟩ | ⟨b13, y11, hx12, rfl, ho14⟩ := h_c'7
  · exact (onPtr_none hx12 hr).elim
  replace hr := onPtr_some hx12 hr
  refine nd_op (op_call (some 43) hs10 (by kernel_rfl) (by kernel_rfl) ((f15_ok hst ho14 hf6_0 hf6_1 hf6_2 hf6_3 hf6_4 hr).mono ?_))
  rintro _ w16 ⟨r15, I15_i0, hst19, rfl, hf15_0_0, hf15_1_0, hf15_1_1, hf15_1_2, hf15_2_0, hf15_i0, hr⟩
  revert hr; intro hr
  refine ⟨_, rfl, fun a17 hs18 => ?_⟩
  refine nd_done ?_
  refine reach_inBlock ?_
  refine to_nd 8 3 (rops (sub [1, 1, 1, 1, 0, 1, 0, 0, 1, 1] f7_c)) (by kernel_rfl) (by kernel_rfl) ?_
  refine nd_q (c := 0) 3 [0, 1, 2, 7, 9] hs18 [(0, .int .i64 displays'0), (1, .slice a_list'1 list'1.length c_list'1), (2, .slice a_order'2 order'2.length c_order'2), (7, .pointer (some ⟨b13, 0, none⟩)), (9, .int .i64 (w64 (i'9 + (1 : Int))))] (by kernel_rfl) fun a22 hs23 => ?_
  refine nd_done ?_
  refine reach_inLoop ?_
  have hs24 := hs23.kept [0, 1, 2, 7, 9] [(0, .int .i64 displays'0), (1, .slice a_list'1 list'1.length c_list'1), (2, .slice a_order'2 order'2.length c_order'2), (7, .pointer (some ⟨b13, 0, none⟩)), (9, .int .i64 (w64 (i'9 + (1 : Int))))] (by kernel_rfl)
  exact hX hr hm0 hst19 hs24 (hf15_i0.nn) (wrap_in .i64 _)
def f7_l3_Y (z : Base) (m0 : Mem) (G : List Grp) (b : Frame) (cs : List Frame) (R : Ending → World → Prop) (a_order'2 : Option Addr) (c_order'2 : Nat) (displays'0 : Int) (order'2 : (List Int)) (c'7 : (Option S62)) (i'10 : Int) : Prop := ∀ {m : Mem} {w : World} {a : Act} {p_c'7 : Option Addr} {I_c'7 : Grp}, m0.le m → W.St z w m (I_c'7 :: G) → Has 112 a [(0, .int .i64 displays'0), (2, .slice a_order'2 order'2.length c_order'2), (7, .pointer p_c'7), (10, .int .i64 i'10)] → (OwnN62 m p_c'7 I_c'7 c'7) → (InR .i64 i'10) → Reach Try.prog b cs R [.code (sub [1, 1, 1, 1, 1, 0, 1, 0, 0] f7_c), .inLoop (sub [1, 1, 1, 1, 1, 0, 1, 0, 0] f7_c), .inBlock 2, .code (sub [1, 1, 1, 1, 1, 1] f7_c)] a w
def f7_l3_Yk1 (z : Base) (m0 : Mem) (G : List Grp) (b : Frame) (cs : List Frame) (R : Ending → World → Prop) (a_order'2 : Option Addr) (c_order'2 : Nat) (displays'0 : Int) (order'2 : (List Int)) (c'7 : (Option S62)) : Prop := ∀ {m : Mem} {w : World} {a : Act} {p_c'7 : Option Addr} {I_c'7 : Grp}, m0.le m → W.St z w m (I_c'7 :: G) → Has 112 a [(2, .slice a_order'2 order'2.length c_order'2), (7, .pointer p_c'7)] → (OwnN62 m p_c'7 I_c'7 c'7) → Reach Try.prog b cs R [.code (sub [1, 1, 1, 1, 1, 1] f7_c)] a w
def f7_l3_b (displays'0 : Int) (order'2 : (List Int)) (k1 : (Option S62) → Prop) (Q : Bool → Prop) (X : (Option S62) → Int → Prop) (c'7 : (Option S62)) (i'10 : Int) : Prop := if i'10 ≤ displays'0 then (onPtr c'7 False (fun y6 => f24 y6 i'10 false fun r10 => if r10.1 = (0 : Int) then (X (some r10.2) (w64 (i'10 + (1 : Int)))) else (Q false))) else (k1 c'7)
def f7_l3 (displays'0 : Int) (order'2 : (List Int)) (k1 : (Option S62) → Prop) (Q : Bool → Prop) (c'7 : (Option S62)) (i'10 : Int) : Prop := ∀ X : (Option S62) → Int → Prop, (∀ {c'7 : (Option S62)} {i'10 : Int}, f7_l3_b displays'0 order'2 k1 Q X c'7 i'10 → X c'7 i'10) → X c'7 i'10
theorem f7_l3_ok {z : Base} {m0 : Mem} {G : List Grp} {b : Frame} {cs : List Frame} {R : Ending → World → Prop} {a_order'2 : Option Addr} {c_order'2 : Nat} {displays'0 : Int} {order'2 : (List Int)} {k1 : (Option S62) → Prop} {Q : Bool → Prop}  (hbf : b.fn = 7) (hbk : b.kind = .normal) (h_displays'0 : InR .i64 displays'0) (h_order'2 : Sl (kInt .i64) 8 m0 a_order'2 c_order'2 order'2)  (hk1 : ∀ {c'7 : (Option S62)}, k1 c'7 → f7_l3_Yk1 z m0 G b cs R a_order'2 c_order'2 displays'0 order'2 c'7) (hQ : ∀ {r : Bool}, Q r → f7_YR z m0 G R  r) : ∀ {c'7 : (Option S62)} {i'10 : Int}, f7_l3 displays'0 order'2 k1 Q c'7 i'10 → f7_l3_Y z m0 G b cs R a_order'2 c_order'2 displays'0 order'2 c'7 i'10 := by
  intro c'7 i'10 hr
  refine hr (f7_l3_Y z m0 G b cs R a_order'2 c_order'2 displays'0 order'2) ?_
  intro c'7 i'10 hr m w a0 p_c'7 I_c'7 hm0 hst hs0 h_c'7 h_i'10
  have hX : ∀ {c'7 : (Option S62)} {i'10 : Int}, f7_l3_Y z m0 G b cs R a_order'2 c_order'2 displays'0 order'2 c'7 i'10 → f7_l3_Y z m0 G b cs R a_order'2 c_order'2 displays'0 order'2 c'7 i'10 := fun h => h
  unfold f7_l3_b at hr
  refine to_seq (sub [1, 1, 1, 1, 1, 0, 1, 0, 0, 0] f7_c) (sub [1, 1, 1, 1, 1, 0, 1, 0, 0, 1] f7_c) (by kernel_rfl) ?_
  refine to_seq (sub [1, 1, 1, 1, 1, 0, 1, 0, 0, 0, 0] f7_c) (sub [1, 1, 1, 1, 1, 0, 1, 0, 0, 0, 1] f7_c) (by kernel_rfl) ?_
  refine to_nd 11 3 (rops (sub [1, 1, 1, 1, 1, 0, 1, 0, 0, 0, 0] f7_c)) (by kernel_rfl) (by kernel_rfl) ?_
  refine nd_q (c := 0) 3 [0, 2, 7, 10, 46] hs0 [(0, .int .i64 displays'0), (2, .slice a_order'2 order'2.length c_order'2), (7, .pointer p_c'7), (10, .int .i64 i'10), (46, .bool (decide (i'10 ≤ displays'0)))] (by kernel_rfl) fun a1 hs2 => ?_
  refine nd_done ?_
  by_cases hb3 : i'10 ≤ displays'0
  rotate_left
  · rw [if_neg hb3] at hr
    rw [(decide_eq_false hb3)] at hs2
    refine to_else (.tmp 46) (sub [1, 1, 1, 1, 1, 0, 1, 0, 0, 0, 1, 0] f7_c) (sub [1, 1, 1, 1, 1, 0, 1, 0, 0, 0, 1, 1] f7_c) (by kernel_rfl) hs2 (by kernel_rfl) ?_
    refine to_exit 2 (by kernel_rfl) [.code (sub [1, 1, 1, 1, 1, 1] f7_c)] rfl ?_
    have hs26 := hs2.kept [2, 7] [(2, .slice a_order'2 order'2.length c_order'2), (7, .pointer p_c'7)] (by kernel_rfl)
    exact hk1 hr hm0 hst hs26 h_c'7
  rw [if_pos hb3] at hr
  rw [(decide_eq_true hb3)] at hs2
  refine to_then (.tmp 46) (sub [1, 1, 1, 1, 1, 0, 1, 0, 0, 0, 1, 0] f7_c) (sub [1, 1, 1, 1, 1, 0, 1, 0, 0, 0, 1, 1] f7_c) (by kernel_rfl) hs2 (by kernel_rfl) ?_
  refine to_skip (by kernel_rfl) ?_
  refine to_seq (sub [1, 1, 1, 1, 1, 0, 1, 0, 0, 1, 0] f7_c) (sub [1, 1, 1, 1, 1, 0, 1, 0, 0, 1, 1] f7_c) (by kernel_rfl) ?_
  refine to_block 3 (sub [1, 1, 1, 1, 1, 0, 1, 0, 0, 1, 0, 0] f7_c) (by kernel_rfl) ?_
  refine to_seq (sub [1, 1, 1, 1, 1, 0, 1, 0, 0, 1, 0, 0, 0] f7_c) (sub [1, 1, 1, 1, 1, 0, 1, 0, 0, 1, 0, 0, 1] f7_c) (by kernel_rfl) ?_
  refine to_nd 13 4 (rops (sub [1, 1, 1, 1, 1, 0, 1, 0, 0, 1, 0, 0, 0] f7_c)) (by kernel_rfl) (by kernel_rfl) ?_
  refine nd_q (c := 2) 2 [0, 2, 7, 10, 49, 50] hs2 [(0, .int .i64 displays'0), (2, .slice a_order'2 order'2.length c_order'2), (7, .pointer p_c'7), (10, .int .i64 i'10), (49, .pointer p_c'7), (50, .int .i64 i'10)] (by kernel_rfl) fun a4 hs5 => ?_
  obtain ⟨hx7, _⟩ | ⟨b8, y6, hx7, rfl, ho9⟩ := h_c'7
  · exact (onPtr_none hx7 hr).elim
  replace hr := onPtr_some hx7 hr
  refine nd_op (op_call (some 51) hs5 (by kernel_rfl) (by kernel_rfl) ((f24_ok hst ho9 h_i'10 hr).mono ?_))
  rintro _ w11 ⟨r10, I10_i0, hst14, rfl, hf10_0_0, hf10_i0, hr⟩
  revert hr; intro hr
  refine ⟨_, rfl, fun a12 hs13 => ?_⟩
  refine nd_q (c := 0) 1 [0, 2, 7, 10, 52] hs13 [(0, .int .i64 displays'0), (2, .slice a_order'2 order'2.length c_order'2), (7, .pointer (some ⟨b8, 0, none⟩)), (10, .int .i64 i'10), (52, .bool (r10.1 != (0 : Int)))] (by kernel_rfl) fun a17 hs18 => ?_
  refine nd_done ?_
  by_cases hb19 : r10.1 = (0 : Int)
  rotate_left
  · rw [if_neg hb19] at hr
    rw [(neT hb19)] at hs18
    refine to_then (.tmp 52) (sub [1, 1, 1, 1, 1, 0, 1, 0, 0, 1, 0, 0, 1, 0] f7_c) (sub [1, 1, 1, 1, 1, 0, 1, 0, 0, 1, 0, 0, 1, 1] f7_c) (by kernel_rfl) hs18 (by kernel_rfl) ?_
    refine to_seq (sub [1, 1, 1, 1, 1, 0, 1, 0, 0, 1, 0, 0, 1, 0, 0] f7_c) (sub [1, 1, 1, 1, 1, 0, 1, 0, 0, 1, 0, 0, 1, 0, 1] f7_c) (by kernel_rfl) ?_
    refine to_nd 14 1 (rops (sub [1, 1, 1, 1, 1, 0, 1, 0, 0, 1, 0, 0, 1, 0, 0] f7_c)) (by kernel_rfl) (by kernel_rfl) ?_
    refine nd_q (c := 0) 1 [6] hs18 [(6, .bool false)] (by kernel_rfl) fun a23 hs24 => ?_
    refine nd_done ?_
    have hst25 := W.St.drop [] hst14
    exact to_ret (v := .bool false) (by kernel_rfl) hbf Try.func7 hbk hs24 (by kernel_rfl) (hQ hr hm0 hst25 )
  rw [if_pos hb19] at hr
  rw [(neF hb19)] at hs18
  refine to_else (.tmp 52) (sub [1, 1, 1, 1, 1, 0, 1, 0, 0, 1, 0, 0, 1, 0] f7_c) (sub [1, 1, 1, 1, 1, 0, 1, 0, 0, 1, 0, 0, 1, 1] f7_c) (by kernel_rfl) hs18 (by kernel_rfl) ?_
  refine to_skip (by kernel_rfl) ?_
  refine reach_inBlock ?_
  refine to_nd 12 3 (rops (sub [1, 1, 1, 1, 1, 0, 1, 0, 0, 1, 1] f7_c)) (by kernel_rfl) (by kernel_rfl) ?_
  refine nd_q (c := 0) 3 [0, 2, 7, 10] hs18 [(0, .int .i64 displays'0), (2, .slice a_order'2 order'2.length c_order'2), (7, .pointer (some ⟨b8, 0, none⟩)), (10, .int .i64 (w64 (i'10 + (1 : Int))))] (by kernel_rfl) fun a20 hs21 => ?_
  refine nd_done ?_
  refine reach_inLoop ?_
  have hs22 := hs21.kept [0, 2, 7, 10] [(0, .int .i64 displays'0), (2, .slice a_order'2 order'2.length c_order'2), (7, .pointer (some ⟨b8, 0, none⟩)), (10, .int .i64 (w64 (i'10 + (1 : Int))))] (by kernel_rfl)
  exact hX hr hm0 hst14 hs22 (hf10_i0.nn) (wrap_in .i64 _)
def f7_l4_Y (z : Base) (m0 : Mem) (G : List Grp) (b : Frame) (cs : List Frame) (R : Ending → World → Prop) (a_order'2 : Option Addr) (c_order'2 : Nat) (order'2 : (List Int)) (c'7 : (Option S62)) (i'11 : Int) : Prop := ∀ {m : Mem} {w : World} {a : Act} {p_c'7 : Option Addr} {I_c'7 : Grp}, m0.le m → W.St z w m (I_c'7 :: G) → Has 112 a [(2, .slice a_order'2 order'2.length c_order'2), (7, .pointer p_c'7), (11, .int .i64 i'11)] → (OwnN62 m p_c'7 I_c'7 c'7) → (InR .i64 i'11) → Reach Try.prog b cs R [.code (sub [1, 1, 1, 1, 1, 1, 1, 0, 0] f7_c), .inLoop (sub [1, 1, 1, 1, 1, 1, 1, 0, 0] f7_c), .inBlock 4] a w
def f7_j6_Y (z : Base) (m0 : Mem) (G : List Grp) (b : Frame) (cs : List Frame) (R : Ending → World → Prop) (a_order'2 : Option Addr) (c_order'2 : Nat) (order'2 : (List Int)) (c'7b : S62) (i'11 : Int) (p'12 : (List Int)) (k'13 : Int) (t'100 : Bool) : Prop := ∀ {m : Mem} {w : World} {a : Act} {b_c'7b : Nat} {I_c'7b : Grp} {a_p'12 : Option Addr} {c_p'12 : Nat} {I_p'12 : Grp}, m0.le m → W.St z w m (I_c'7b :: I_p'12 :: G) → Has 112 a [(2, .slice a_order'2 order'2.length c_order'2), (7, .pointer (some ⟨b_c'7b, 0, none⟩)), (11, .int .i64 i'11), (12, .slice a_p'12 p'12.length c_p'12), (13, .int .i64 k'13), (100, .bool t'100)] → (OwnS62 m b_c'7b I_c'7b c'7b) → (InR .i64 i'11) → (OwnSl (kInt .i64) 8 3 m a_p'12 c_p'12 I_p'12 p'12) → (InR .i64 k'13) → Reach Try.prog b cs R [.code (sub [1, 1, 1, 1, 1, 1, 1, 0, 0, 0, 0, 1, 1, 1, 1, 0, 1, 1] f7_c), .code (sub [1, 1, 1, 1, 1, 1, 1, 0, 0, 0, 0, 1, 1, 1, 1, 1] f7_c), .inBlock 5, .code (sub [1, 1, 1, 1, 1, 1, 1, 0, 0, 1] f7_c), .inLoop (sub [1, 1, 1, 1, 1, 1, 1, 0, 0] f7_c), .inBlock 4] a w
def f7_j6 (order'2 : (List Int)) (Q : Bool → Prop) (X : (Option S62) → Int → Prop) (c'7b : S62) (i'11 : Int) (p'12 : (List Int)) (k'13 : Int) (t'100 : Bool) : Prop := if t'100 = true then (Q false) else (ofO (ix p'12 k'13) fun x8 => f25 c'7b x8 fun r13 => if r13.2.1 = (8 : Int) then (X (some r13.2.2) (w64 (i'11 + (1 : Int)))) else (Q false))
theorem f7_j6_ok {z : Base} {m0 : Mem} {G : List Grp} {b : Frame} {cs : List Frame} {R : Ending → World → Prop} {a_order'2 : Option Addr} {c_order'2 : Nat} {order'2 : (List Int)} {Q : Bool → Prop} {X : (Option S62) → Int → Prop} (hbf : b.fn = 7) (hbk : b.kind = .normal) (h_order'2 : Sl (kInt .i64) 8 m0 a_order'2 c_order'2 order'2)  (hQ : ∀ {r : Bool}, Q r → f7_YR z m0 G R  r) (hX : ∀ {c'7 : (Option S62)} {i'11 : Int}, X c'7 i'11 → f7_l4_Y z m0 G b cs R a_order'2 c_order'2 order'2 c'7 i'11) : ∀ {c'7b : S62} {i'11 : Int} {p'12 : (List Int)} {k'13 : Int} {t'100 : Bool}, f7_j6 order'2 Q X c'7b i'11 p'12 k'13 t'100 → f7_j6_Y z m0 G b cs R a_order'2 c_order'2 order'2 c'7b i'11 p'12 k'13 t'100 := by
  intro c'7b i'11 p'12 k'13 t'100 hr m w a0 b_c'7b I_c'7b a_p'12 c_p'12 I_p'12 hm0 hst hs0 h_c'7b h_i'11 h_p'12 h_k'13
  unfold f7_j6 at hr
  by_cases hb1 : t'100 = true
  · rw [if_pos hb1] at hr
    rw [(bT hb1)] at hs0
    refine to_then (.tmp 100) (sub [1, 1, 1, 1, 1, 1, 1, 0, 0, 0, 0, 1, 1, 1, 1, 0, 1, 1, 0] f7_c) (sub [1, 1, 1, 1, 1, 1, 1, 0, 0, 0, 0, 1, 1, 1, 1, 0, 1, 1, 1] f7_c) (by kernel_rfl) hs0 (by kernel_rfl) ?_
    refine to_seq (sub [1, 1, 1, 1, 1, 1, 1, 0, 0, 0, 0, 1, 1, 1, 1, 0, 1, 1, 0, 0] f7_c) (sub [1, 1, 1, 1, 1, 1, 1, 0, 0, 0, 0, 1, 1, 1, 1, 0, 1, 1, 0, 1] f7_c) (by kernel_rfl) ?_
    refine to_nd 27 1 (rops (sub [1, 1, 1, 1, 1, 1, 1, 0, 0, 0, 0, 1, 1, 1, 1, 0, 1, 1, 0, 0] f7_c)) (by kernel_rfl) (by kernel_rfl) ?_
    refine nd_q (c := 0) 1 [6] hs0 [(6, .bool false)] (by kernel_rfl) fun a2 hs3 => ?_
    refine nd_done ?_
    have hst4 := W.St.drop [] hst
    have hst5 := W.St.drop [] hst4
    exact to_ret (v := .bool false) (by kernel_rfl) hbf Try.func7 hbk hs3 (by kernel_rfl) (hQ hr hm0 hst5 )
  rw [if_neg hb1] at hr
  rw [(bF hb1)] at hs0
  refine to_else (.tmp 100) (sub [1, 1, 1, 1, 1, 1, 1, 0, 0, 0, 0, 1, 1, 1, 1, 0, 1, 1, 0] f7_c) (sub [1, 1, 1, 1, 1, 1, 1, 0, 0, 0, 0, 1, 1, 1, 1, 0, 1, 1, 1] f7_c) (by kernel_rfl) hs0 (by kernel_rfl) ?_
  refine to_skip (by kernel_rfl) ?_
  refine to_seq (sub [1, 1, 1, 1, 1, 1, 1, 0, 0, 0, 0, 1, 1, 1, 1, 1, 0] f7_c) (sub [1, 1, 1, 1, 1, 1, 1, 0, 0, 0, 0, 1, 1, 1, 1, 1, 1] f7_c) (by kernel_rfl) ?_
  refine to_nd 28 12 (rops (sub [1, 1, 1, 1, 1, 1, 1, 0, 0, 0, 0, 1, 1, 1, 1, 1, 0] f7_c)) (by kernel_rfl) (by kernel_rfl) ?_
  refine nd_q (c := 9) 3 [2, 7, 11, 102, 103, 104] hs0 [(2, .slice a_order'2 order'2.length c_order'2), (7, .pointer (some ⟨b_c'7b, 0, none⟩)), (11, .int .i64 i'11), (102, .pointer (some ⟨b_c'7b, 0, none⟩)), (103, .slice a_p'12 p'12.length c_p'12), (104, .int .i64 k'13)] (by kernel_rfl) fun a6 hs7 => ?_
  obtain ⟨x8, hx8, hr⟩ := ofO_el hr
  obtain ⟨ad8, c8, hC8, hR8, hX8, hW8⟩ := own_ix h_p'12 hx8
  obtain ⟨he8, hf8⟩ := kInt_open hR8
  refine nd_v (i := 3) (c := 8) 105 (.pointer (some ad8)) hs7 (by kernel_rfl) (hX8 (P := Try.prog) (w := w) (by kernel_rfl)) fun a9 hs10 => ?_
  refine nd_v (i := 4) (c := 7) 106 (.int .i64 x8) hs10 (by kernel_rfl) (ld1_run (P := Try.prog) (ad := ad8) (by kernel_rfl) (ocell0 (own_conv hC8 he8 (W.St.front [_] hst)) (Nat.le_of_ble_eq_true rfl))) fun a11 hs12 => ?_
  refine nd_op (op_call (some 107) hs12 (by kernel_rfl) (by kernel_rfl) ((f25_ok hst h_c'7b hf8 hr).mono ?_))
  rintro _ w14 ⟨r13, I13_i0, hst17, rfl, hf13_0_0, hf13_0_1, hf13_0_2, hf13_1_0, hf13_i0, hr⟩
  revert hr; intro hr
  refine ⟨_, rfl, fun a15 hs16 => ?_⟩
  refine nd_q (c := 3) 3 [2, 7, 11, 108, 109] hs16 [(2, .slice a_order'2 order'2.length c_order'2), (7, .pointer (some ⟨b_c'7b, 0, none⟩)), (11, .int .i64 i'11), (108, .agg #[.int .i64 r13.1.f0, .int .i64 r13.1.f1, .string r13.1.f2]), (109, .int .i64 r13.2.1)] (by kernel_rfl) fun a20 hs21 => ?_
  have hst24 := hst17.alloc (.cells [.int .i64 (0 : Int), .int .i64 (0 : Int), .string ByteArray.empty].toArray 37 (0, 0))
  refine nd_op (op_v (w' := w14.alloc (.cells [.int .i64 (0 : Int), .int .i64 (0 : Int), .string ByteArray.empty].toArray 37 (0, 0))) (some 16) (.pointer (some ⟨w14.heap.size, 0, none⟩)) hs21 (by kernel_rfl) (by kernel_rfl) fun a25 hs26 => ?_)
  generalize w14.heap.size = b22 at hst24 hs26
  generalize w14.alloc (.cells [.int .i64 (0 : Int), .int .i64 (0 : Int), .string ByteArray.empty].toArray 37 (0, 0)) = w23 at hst24 ⊢
  obtain ⟨wq27, hxq27, hstq27⟩ := stq_run (P := Try.prog) (o := opAt (rops (sub [1, 1, 1, 1, 1, 1, 1, 0, 0, 0, 0, 1, 1, 1, 1, 1, 0] f7_c)) 10) (ρ := Env.rho hs26.env) (off := 0) (vs := [.int .i64 r13.1.f0, .int .i64 r13.1.f1, .string r13.1.f2]) (by kernel_rfl) (by kernel_rfl) (Nat.le_of_ble_eq_true rfl) hst24 [.int .i64 r13.1.f0, .int .i64 r13.1.f1, .string r13.1.f2] rfl
  refine nd_op (op_s none hs26 (by kernel_rfl) hxq27 fun a28 hs29 => ?_)
  refine nd_q (c := 0) 1 [2, 7, 11, 17] hs29 [(2, .slice a_order'2 order'2.length c_order'2), (7, .pointer (some ⟨b_c'7b, 0, none⟩)), (11, .int .i64 i'11), (17, .int .i64 r13.2.1)] (by kernel_rfl) fun a30 hs31 => ?_
  refine nd_done ?_
  refine to_seq (sub [1, 1, 1, 1, 1, 1, 1, 0, 0, 0, 0, 1, 1, 1, 1, 1, 1, 0] f7_c) (sub [1, 1, 1, 1, 1, 1, 1, 0, 0, 0, 0, 1, 1, 1, 1, 1, 1, 1] f7_c) (by kernel_rfl) ?_
  refine to_nd 29 2 (rops (sub [1, 1, 1, 1, 1, 1, 1, 0, 0, 0, 0, 1, 1, 1, 1, 1, 1, 0] f7_c)) (by kernel_rfl) (by kernel_rfl) ?_
  refine nd_q (c := 0) 2 [2, 7, 11, 111] hs31 [(2, .slice a_order'2 order'2.length c_order'2), (7, .pointer (some ⟨b_c'7b, 0, none⟩)), (11, .int .i64 i'11), (111, .bool (r13.2.1 != (8 : Int)))] (by kernel_rfl) fun a32 hs33 => ?_
  refine nd_done ?_
  by_cases hb34 : r13.2.1 = (8 : Int)
  rotate_left
  · rw [if_neg hb34] at hr
    rw [(neT hb34)] at hs33
    refine to_then (.tmp 111) (sub [1, 1, 1, 1, 1, 1, 1, 0, 0, 0, 0, 1, 1, 1, 1, 1, 1, 1, 0] f7_c) (sub [1, 1, 1, 1, 1, 1, 1, 0, 0, 0, 0, 1, 1, 1, 1, 1, 1, 1, 1] f7_c) (by kernel_rfl) hs33 (by kernel_rfl) ?_
    refine to_seq (sub [1, 1, 1, 1, 1, 1, 1, 0, 0, 0, 0, 1, 1, 1, 1, 1, 1, 1, 0, 0] f7_c) (sub [1, 1, 1, 1, 1, 1, 1, 0, 0, 0, 0, 1, 1, 1, 1, 1, 1, 1, 0, 1] f7_c) (by kernel_rfl) ?_
    refine to_nd 30 1 (rops (sub [1, 1, 1, 1, 1, 1, 1, 0, 0, 0, 0, 1, 1, 1, 1, 1, 1, 1, 0, 0] f7_c)) (by kernel_rfl) (by kernel_rfl) ?_
    refine nd_q (c := 0) 1 [6] hs33 [(6, .bool false)] (by kernel_rfl) fun a40 hs41 => ?_
    refine nd_done ?_
    have hst42 := W.St.drop [] hstq27
    have hst43 := W.St.drop [] hst42
    have hst44 := W.St.drop [] hst43
    exact to_ret (v := .bool false) (by kernel_rfl) hbf Try.func7 hbk hs41 (by kernel_rfl) (hQ hr hm0 hst44 )
  rw [if_pos hb34] at hr
  rw [(neF hb34)] at hs33
  refine to_else (.tmp 111) (sub [1, 1, 1, 1, 1, 1, 1, 0, 0, 0, 0, 1, 1, 1, 1, 1, 1, 1, 0] f7_c) (sub [1, 1, 1, 1, 1, 1, 1, 0, 0, 0, 0, 1, 1, 1, 1, 1, 1, 1, 1] f7_c) (by kernel_rfl) hs33 (by kernel_rfl) ?_
  refine to_skip (by kernel_rfl) ?_
  refine reach_inBlock ?_
  refine to_nd 16 3 (rops (sub [1, 1, 1, 1, 1, 1, 1, 0, 0, 1] f7_c)) (by kernel_rfl) (by kernel_rfl) ?_
  refine nd_q (c := 0) 3 [2, 7, 11] hs33 [(2, .slice a_order'2 order'2.length c_order'2), (7, .pointer (some ⟨b_c'7b, 0, none⟩)), (11, .int .i64 (w64 (i'11 + (1 : Int))))] (by kernel_rfl) fun a35 hs36 => ?_
  refine nd_done ?_
  refine reach_inLoop ?_
  have hst37 := W.St.drop [] hstq27
  have hst38 := W.St.drop [_] hst37
  have hs39 := hs36.kept [2, 7, 11] [(2, .slice a_order'2 order'2.length c_order'2), (7, .pointer (some ⟨b_c'7b, 0, none⟩)), (11, .int .i64 (w64 (i'11 + (1 : Int))))] (by kernel_rfl)
  exact hX hr hm0 hst38 hs39 (hf13_i0.nn) (wrap_in .i64 _)
def f7_j5_Y (z : Base) (m0 : Mem) (G : List Grp) (b : Frame) (cs : List Frame) (R : Ending → World → Prop) (a_order'2 : Option Addr) (c_order'2 : Nat) (order'2 : (List Int)) (c'7b : S62) (i'11 : Int) (p'12 : (List Int)) (k'13 : Int) : Prop := ∀ {m : Mem} {w : World} {a : Act} {b_c'7b : Nat} {I_c'7b : Grp} {a_p'12 : Option Addr} {c_p'12 : Nat} {I_p'12 : Grp}, m0.le m → W.St z w m (I_c'7b :: I_p'12 :: G) → Has 112 a [(2, .slice a_order'2 order'2.length c_order'2), (7, .pointer (some ⟨b_c'7b, 0, none⟩)), (11, .int .i64 i'11), (12, .slice a_p'12 p'12.length c_p'12), (13, .int .i64 k'13)] → (OwnS62 m b_c'7b I_c'7b c'7b) → (InR .i64 i'11) → (OwnSl (kInt .i64) 8 3 m a_p'12 c_p'12 I_p'12 p'12) → (InR .i64 k'13) → Reach Try.prog b cs R [.code (sub [1, 1, 1, 1, 1, 1, 1, 0, 0, 0, 0, 1, 1, 1, 1] f7_c), .inBlock 5, .code (sub [1, 1, 1, 1, 1, 1, 1, 0, 0, 1] f7_c), .inLoop (sub [1, 1, 1, 1, 1, 1, 1, 0, 0] f7_c), .inBlock 4] a w
def f7_j5 (order'2 : (List Int)) (Q : Bool → Prop) (X : (Option S62) → Int → Prop) (c'7b : S62) (i'11 : Int) (p'12 : (List Int)) (k'13 : Int) : Prop := ofO (ix p'12 k'13) fun x3 => f25 c'7b x3 fun r8 => if r8.2.1 = (0 : Int) then (f12 r8.2.2 fun r39 => f7_j6 order'2 Q X r8.2.2 i'11 p'12 k'13 ((r39.length : Int) != (w64 ((p'12.length : Int) - (1 : Int))))) else (f7_j6 order'2 Q X r8.2.2 i'11 p'12 k'13 true)
theorem f7_j5_ok {z : Base} {m0 : Mem} {G : List Grp} {b : Frame} {cs : List Frame} {R : Ending → World → Prop} {a_order'2 : Option Addr} {c_order'2 : Nat} {order'2 : (List Int)} {Q : Bool → Prop} {X : (Option S62) → Int → Prop} (hbf : b.fn = 7) (hbk : b.kind = .normal) (h_order'2 : Sl (kInt .i64) 8 m0 a_order'2 c_order'2 order'2)  (hQ : ∀ {r : Bool}, Q r → f7_YR z m0 G R  r) (hX : ∀ {c'7 : (Option S62)} {i'11 : Int}, X c'7 i'11 → f7_l4_Y z m0 G b cs R a_order'2 c_order'2 order'2 c'7 i'11) : ∀ {c'7b : S62} {i'11 : Int} {p'12 : (List Int)} {k'13 : Int}, f7_j5 order'2 Q X c'7b i'11 p'12 k'13 → f7_j5_Y z m0 G b cs R a_order'2 c_order'2 order'2 c'7b i'11 p'12 k'13 := by
  intro c'7b i'11 p'12 k'13 hr m w a0 b_c'7b I_c'7b a_p'12 c_p'12 I_p'12 hm0 hst hs0 h_c'7b h_i'11 h_p'12 h_k'13
  unfold f7_j5 at hr
  refine to_seq (sub [1, 1, 1, 1, 1, 1, 1, 0, 0, 0, 0, 1, 1, 1, 1, 0] f7_c) (sub [1, 1, 1, 1, 1, 1, 1, 0, 0, 0, 0, 1, 1, 1, 1, 1] f7_c) (by kernel_rfl) ?_
  refine to_seq (sub [1, 1, 1, 1, 1, 1, 1, 0, 0, 0, 0, 1, 1, 1, 1, 0, 0] f7_c) (sub [1, 1, 1, 1, 1, 1, 1, 0, 0, 0, 0, 1, 1, 1, 1, 0, 1] f7_c) (by kernel_rfl) ?_
  refine to_nd 25 12 (rops (sub [1, 1, 1, 1, 1, 1, 1, 0, 0, 0, 0, 1, 1, 1, 1, 0, 0] f7_c)) (by kernel_rfl) (by kernel_rfl) ?_
  refine nd_q (c := 9) 3 [2, 7, 11, 12, 13, 82, 83, 84] hs0 [(2, .slice a_order'2 order'2.length c_order'2), (7, .pointer (some ⟨b_c'7b, 0, none⟩)), (11, .int .i64 i'11), (12, .slice a_p'12 p'12.length c_p'12), (13, .int .i64 k'13), (82, .pointer (some ⟨b_c'7b, 0, none⟩)), (83, .slice a_p'12 p'12.length c_p'12), (84, .int .i64 k'13)] (by kernel_rfl) fun a1 hs2 => ?_
  obtain ⟨x3, hx3, hr⟩ := ofO_el hr
  obtain ⟨ad3, c3, hC3, hR3, hX3, hW3⟩ := own_ix h_p'12 hx3
  obtain ⟨he3, hf3⟩ := kInt_open hR3
  refine nd_v (i := 3) (c := 8) 85 (.pointer (some ad3)) hs2 (by kernel_rfl) (hX3 (P := Try.prog) (w := w) (by kernel_rfl)) fun a4 hs5 => ?_
  refine nd_v (i := 4) (c := 7) 86 (.int .i64 x3) hs5 (by kernel_rfl) (ld1_run (P := Try.prog) (ad := ad3) (by kernel_rfl) (ocell0 (own_conv hC3 he3 (W.St.front [_] hst)) (Nat.le_of_ble_eq_true rfl))) fun a6 hs7 => ?_
  refine nd_op (op_call (some 87) hs7 (by kernel_rfl) (by kernel_rfl) ((f25_ok hst h_c'7b hf3 hr).mono ?_))
  rintro _ w9 ⟨r8, I8_i0, hst12, rfl, hf8_0_0, hf8_0_1, hf8_0_2, hf8_1_0, hf8_i0, hr⟩
  revert hr; intro hr
  refine ⟨_, rfl, fun a10 hs11 => ?_⟩
  refine nd_q (c := 3) 3 [2, 7, 11, 12, 13, 88, 89] hs11 [(2, .slice a_order'2 order'2.length c_order'2), (7, .pointer (some ⟨b_c'7b, 0, none⟩)), (11, .int .i64 i'11), (12, .slice a_p'12 p'12.length c_p'12), (13, .int .i64 k'13), (88, .agg #[.int .i64 r8.1.f0, .int .i64 r8.1.f1, .string r8.1.f2]), (89, .int .i64 r8.2.1)] (by kernel_rfl) fun a15 hs16 => ?_
  have hst19 := hst12.alloc (.cells [.int .i64 (0 : Int), .int .i64 (0 : Int), .string ByteArray.empty].toArray 37 (0, 0))
  refine nd_op (op_v (w' := w9.alloc (.cells [.int .i64 (0 : Int), .int .i64 (0 : Int), .string ByteArray.empty].toArray 37 (0, 0))) (some 14) (.pointer (some ⟨w9.heap.size, 0, none⟩)) hs16 (by kernel_rfl) (by kernel_rfl) fun a20 hs21 => ?_)
  generalize w9.heap.size = b17 at hst19 hs21
  generalize w9.alloc (.cells [.int .i64 (0 : Int), .int .i64 (0 : Int), .string ByteArray.empty].toArray 37 (0, 0)) = w18 at hst19 ⊢
  obtain ⟨wq22, hxq22, hstq22⟩ := stq_run (P := Try.prog) (o := opAt (rops (sub [1, 1, 1, 1, 1, 1, 1, 0, 0, 0, 0, 1, 1, 1, 1, 0, 0] f7_c)) 10) (ρ := Env.rho hs21.env) (off := 0) (vs := [.int .i64 r8.1.f0, .int .i64 r8.1.f1, .string r8.1.f2]) (by kernel_rfl) (by kernel_rfl) (Nat.le_of_ble_eq_true rfl) hst19 [.int .i64 r8.1.f0, .int .i64 r8.1.f1, .string r8.1.f2] rfl
  refine nd_op (op_s none hs21 (by kernel_rfl) hxq22 fun a23 hs24 => ?_)
  refine nd_q (c := 0) 1 [2, 7, 11, 12, 13, 15] hs24 [(2, .slice a_order'2 order'2.length c_order'2), (7, .pointer (some ⟨b_c'7b, 0, none⟩)), (11, .int .i64 i'11), (12, .slice a_p'12 p'12.length c_p'12), (13, .int .i64 k'13), (15, .int .i64 r8.2.1)] (by kernel_rfl) fun a25 hs26 => ?_
  refine nd_done ?_
  refine to_seq (sub [1, 1, 1, 1, 1, 1, 1, 0, 0, 0, 0, 1, 1, 1, 1, 0, 1, 0] f7_c) (sub [1, 1, 1, 1, 1, 1, 1, 0, 0, 0, 0, 1, 1, 1, 1, 0, 1, 1] f7_c) (by kernel_rfl) ?_
  refine to_nd 26 11 (rops (sub [1, 1, 1, 1, 1, 1, 1, 0, 0, 0, 0, 1, 1, 1, 1, 0, 1, 0] f7_c)) (by kernel_rfl) (by kernel_rfl) ?_
  refine nd_q (c := 8) 3 [2, 7, 11, 12, 13, 92] hs26 [(2, .slice a_order'2 order'2.length c_order'2), (7, .pointer (some ⟨b_c'7b, 0, none⟩)), (11, .int .i64 i'11), (12, .slice a_p'12 p'12.length c_p'12), (13, .int .i64 k'13), (92, .bool (r8.2.1 != (0 : Int)))] (by kernel_rfl) fun a27 hs28 => ?_
  by_cases hb29 : r8.2.1 = (0 : Int)
  rotate_left
  · rw [if_neg hb29] at hr
    rw [(neT hb29)] at hs28
    refine nd_q (c := 0) 8 [2, 7, 11, 12, 13, 100] hs28 [(2, .slice a_order'2 order'2.length c_order'2), (7, .pointer (some ⟨b_c'7b, 0, none⟩)), (11, .int .i64 i'11), (12, .slice a_p'12 p'12.length c_p'12), (13, .int .i64 k'13), (100, .bool true)] (by kernel_rfl) fun a52 hs53 => ?_
    refine nd_done ?_
    have hst54 := W.St.drop [] hstq22
    have hs55 := hs53.kept [2, 7, 11, 12, 13, 100] [(2, .slice a_order'2 order'2.length c_order'2), (7, .pointer (some ⟨b_c'7b, 0, none⟩)), (11, .int .i64 i'11), (12, .slice a_p'12 p'12.length c_p'12), (13, .int .i64 k'13), (100, .bool true)] (by kernel_rfl)
    exact f7_j6_ok hbf hbk h_order'2  hQ hX hr hm0 hst54 hs55 hf8_i0 h_i'11 h_p'12 h_k'13
  rw [if_pos hb29] at hr
  rw [(neF hb29)] at hs28
  refine nd_q (c := 7) 1 [2, 7, 11, 12, 13, 92, 93] hs28 [(2, .slice a_order'2 order'2.length c_order'2), (7, .pointer (some ⟨b_c'7b, 0, none⟩)), (11, .int .i64 i'11), (12, .slice a_p'12 p'12.length c_p'12), (13, .int .i64 k'13), (92, .bool false), (93, .pointer (some ⟨b_c'7b, 0, none⟩))] (by kernel_rfl) fun a30 hs31 => ?_
  have hst32 := W.St.front [_] hstq22
  have hz34 := hf8_i0.lend hst32
  have hst35 := W.St.freeze hst32
  have hm36 := Mem.le_add m I8_i0
  generalize hq37 : Mem.add m I8_i0 = m33 at hz34 hst35 hm36
  obtain ⟨aq38_0, cq38_0, rq38_1, aq38_2, cq38_2, hAq38, hfq38_0, hfq38_1, hfq38_2, hfq38_3, hfq38_4, hfq38_5⟩ := hz34
  refine nd_op (op_call (some 94) hs31 (by kernel_rfl) (by kernel_rfl) ((f12_ok hst35 hAq38 hfq38_0 hfq38_1 hfq38_2 hfq38_3 hfq38_4 hfq38_5 hr).mono ?_))
  rintro _ w40 ⟨r39, a39_0_0, c39_0_0, I39_0_0, hst43, rfl, hf39_0_0, hr⟩
  revert hr; intro hr
  refine ⟨_, rfl, fun a41 hs42 => ?_⟩
  have hst46 := W.St.thaw2 hst32 (by rw [hq37]; exact Mem.le.refl _) hst43
  refine nd_q (c := 0) 6 [2, 7, 11, 12, 13, 100] hs42 [(2, .slice a_order'2 order'2.length c_order'2), (7, .pointer (some ⟨b_c'7b, 0, none⟩)), (11, .int .i64 i'11), (12, .slice a_p'12 p'12.length c_p'12), (13, .int .i64 k'13), (100, .bool ((r39.length : Int) != (w64 ((p'12.length : Int) - (1 : Int)))))] (by kernel_rfl) fun a47 hs48 => ?_
  refine nd_done ?_
  have hst49 := W.St.drop [_] hst46
  have hst50 := W.St.drop [_] hst49
  have hs51 := hs48.kept [2, 7, 11, 12, 13, 100] [(2, .slice a_order'2 order'2.length c_order'2), (7, .pointer (some ⟨b_c'7b, 0, none⟩)), (11, .int .i64 i'11), (12, .slice a_p'12 p'12.length c_p'12), (13, .int .i64 k'13), (100, .bool ((r39.length : Int) != (w64 ((p'12.length : Int) - (1 : Int)))))] (by kernel_rfl)
  exact f7_j6_ok hbf hbk h_order'2  hQ hX hr hm0 hst50 hs51 hf8_i0 h_i'11 h_p'12 h_k'13
def f7_l4_b (order'2 : (List Int)) (Q : Bool → Prop) (X : (Option S62) → Int → Prop) (c'7 : (Option S62)) (i'11 : Int) : Prop := onPtr c'7 False (fun y3 => f12 y3 fun r13 => if (r13.length : Int) = (0 : Int) then (f19 y3 fun r34 => Q ((r34.length : Int) == (0 : Int))) else (if i'11 < (order'2.length : Int) then (ofO (ix order'2 i'11) fun x54 => ofO (remI x54 (r13.length : Int)) fun r61 => if r61 < (0 : Int) then (f7_j5 order'2 Q X y3 i'11 r13 (w64 (r61 + (r13.length : Int)))) else (f7_j5 order'2 Q X y3 i'11 r13 r61)) else (f7_j5 order'2 Q X y3 i'11 r13 (0 : Int))))
def f7_l4 (order'2 : (List Int)) (Q : Bool → Prop) (c'7 : (Option S62)) (i'11 : Int) : Prop := ∀ X : (Option S62) → Int → Prop, (∀ {c'7 : (Option S62)} {i'11 : Int}, f7_l4_b order'2 Q X c'7 i'11 → X c'7 i'11) → X c'7 i'11
theorem f7_l4_ok {z : Base} {m0 : Mem} {G : List Grp} {b : Frame} {cs : List Frame} {R : Ending → World → Prop} {a_order'2 : Option Addr} {c_order'2 : Nat} {order'2 : (List Int)} {Q : Bool → Prop}  (hbf : b.fn = 7) (hbk : b.kind = .normal) (h_order'2 : Sl (kInt .i64) 8 m0 a_order'2 c_order'2 order'2)   (hQ : ∀ {r : Bool}, Q r → f7_YR z m0 G R  r) : ∀ {c'7 : (Option S62)} {i'11 : Int}, f7_l4 order'2 Q c'7 i'11 → f7_l4_Y z m0 G b cs R a_order'2 c_order'2 order'2 c'7 i'11 := by
  intro c'7 i'11 hr
  refine hr (f7_l4_Y z m0 G b cs R a_order'2 c_order'2 order'2) ?_
  intro c'7 i'11 hr m w a0 p_c'7 I_c'7 hm0 hst hs0 h_c'7 h_i'11
  have hX : ∀ {c'7 : (Option S62)} {i'11 : Int}, f7_l4_Y z m0 G b cs R a_order'2 c_order'2 order'2 c'7 i'11 → f7_l4_Y z m0 G b cs R a_order'2 c_order'2 order'2 c'7 i'11 := fun h => h
  unfold f7_l4_b at hr
  refine to_seq (sub [1, 1, 1, 1, 1, 1, 1, 0, 0, 0] f7_c) (sub [1, 1, 1, 1, 1, 1, 1, 0, 0, 1] f7_c) (by kernel_rfl) ?_
  refine to_block 5 (sub [1, 1, 1, 1, 1, 1, 1, 0, 0, 0, 0] f7_c) (by kernel_rfl) ?_
  refine to_seq (sub [1, 1, 1, 1, 1, 1, 1, 0, 0, 0, 0, 0] f7_c) (sub [1, 1, 1, 1, 1, 1, 1, 0, 0, 0, 0, 1] f7_c) (by kernel_rfl) ?_
  refine to_nd 17 3 (rops (sub [1, 1, 1, 1, 1, 1, 1, 0, 0, 0, 0, 0] f7_c)) (by kernel_rfl) (by kernel_rfl) ?_
  refine nd_q (c := 2) 1 [2, 7, 11, 55] hs0 [(2, .slice a_order'2 order'2.length c_order'2), (7, .pointer p_c'7), (11, .int .i64 i'11), (55, .pointer p_c'7)] (by kernel_rfl) fun a1 hs2 => ?_
  obtain ⟨hx4, _⟩ | ⟨b5, y3, hx4, rfl, ho6⟩ := h_c'7
  · exact (onPtr_none hx4 hr).elim
  replace hr := onPtr_some hx4 hr
  have hz8 := ho6.lend hst
  have hst9 := W.St.freeze hst
  have hm10 := Mem.le_add m I_c'7
  generalize hq11 : Mem.add m I_c'7 = m7 at hz8 hst9 hm10
  obtain ⟨aq12_0, cq12_0, rq12_1, aq12_2, cq12_2, hAq12, hfq12_0, hfq12_1, hfq12_2, hfq12_3, hfq12_4, hfq12_5⟩ := hz8
  refine nd_op (op_call (some 56) hs2 (by kernel_rfl) (by kernel_rfl) ((f12_ok hst9 hAq12 hfq12_0 hfq12_1 hfq12_2 hfq12_3 hfq12_4 hfq12_5 hr).mono ?_))
  rintro _ w14 ⟨r13, a13_0_0, c13_0_0, I13_0_0, hst17, rfl, hf13_0_0, hr⟩
  revert hr; intro hr
  refine ⟨_, rfl, fun a15 hs16 => ?_⟩
  have hst20 := W.St.thaw2 hst (by rw [hq11]; exact Mem.le.refl _) hst17
  refine nd_q (c := 0) 1 [2, 7, 11, 12] hs16 [(2, .slice a_order'2 order'2.length c_order'2), (7, .pointer (some ⟨b5, 0, none⟩)), (11, .int .i64 i'11), (12, .slice a13_0_0 r13.length c13_0_0)] (by kernel_rfl) fun a21 hs22 => ?_
  refine nd_done ?_
  refine to_seq (sub [1, 1, 1, 1, 1, 1, 1, 0, 0, 0, 0, 1, 0] f7_c) (sub [1, 1, 1, 1, 1, 1, 1, 0, 0, 0, 0, 1, 1] f7_c) (by kernel_rfl) ?_
  refine to_seq (sub [1, 1, 1, 1, 1, 1, 1, 0, 0, 0, 0, 1, 0, 0] f7_c) (sub [1, 1, 1, 1, 1, 1, 1, 0, 0, 0, 0, 1, 0, 1] f7_c) (by kernel_rfl) ?_
  refine to_nd 18 3 (rops (sub [1, 1, 1, 1, 1, 1, 1, 0, 0, 0, 0, 1, 0, 0] f7_c)) (by kernel_rfl) (by kernel_rfl) ?_
  refine nd_q (c := 0) 3 [2, 7, 11, 12, 59] hs22 [(2, .slice a_order'2 order'2.length c_order'2), (7, .pointer (some ⟨b5, 0, none⟩)), (11, .int .i64 i'11), (12, .slice a13_0_0 r13.length c13_0_0), (59, .bool ((r13.length : Int) == (0 : Int)))] (by kernel_rfl) fun a23 hs24 => ?_
  refine nd_done ?_
  by_cases hb25 : (r13.length : Int) = (0 : Int)
  · rw [if_pos hb25] at hr
    rw [(eqT hb25)] at hs24
    refine to_then (.tmp 59) (sub [1, 1, 1, 1, 1, 1, 1, 0, 0, 0, 0, 1, 0, 1, 0] f7_c) (sub [1, 1, 1, 1, 1, 1, 1, 0, 0, 0, 0, 1, 0, 1, 1] f7_c) (by kernel_rfl) hs24 (by kernel_rfl) ?_
    refine to_seq (sub [1, 1, 1, 1, 1, 1, 1, 0, 0, 0, 0, 1, 0, 1, 0, 0] f7_c) (sub [1, 1, 1, 1, 1, 1, 1, 0, 0, 0, 0, 1, 0, 1, 0, 1] f7_c) (by kernel_rfl) ?_
    refine to_nd 19 5 (rops (sub [1, 1, 1, 1, 1, 1, 1, 0, 0, 0, 0, 1, 0, 1, 0, 0] f7_c)) (by kernel_rfl) (by kernel_rfl) ?_
    refine nd_q (c := 4) 1 [60] hs24 [(60, .pointer (some ⟨b5, 0, none⟩))] (by kernel_rfl) fun a26 hs27 => ?_
    have hz29 := ho6.lend hst20
    have hst30 := W.St.freeze hst20
    have hm31 := Mem.le_add m I_c'7
    generalize hq32 : Mem.add m I_c'7 = m28 at hz29 hst30 hm31
    obtain ⟨aq33_0, cq33_0, rq33_1, aq33_2, cq33_2, hAq33, hfq33_0, hfq33_1, hfq33_2, hfq33_3, hfq33_4, hfq33_5⟩ := hz29
    refine nd_op (op_call (some 61) hs27 (by kernel_rfl) (by kernel_rfl) ((f19_ok hst30 hAq33 hfq33_0 hfq33_1 hfq33_2 hfq33_3 hfq33_4 hfq33_5 hr).mono ?_))
    rintro _ w35 ⟨r34, a34_0_0, c34_0_0, I34_0_0, hst38, rfl, hf34_0_0, hr⟩
    revert hr; intro hr
    refine ⟨_, rfl, fun a36 hs37 => ?_⟩
    have hst41 := W.St.thaw2 hst20 (by rw [hq32]; exact Mem.le.refl _) hst38
    refine nd_q (c := 0) 3 [6] hs37 [(6, .bool ((r34.length : Int) == (0 : Int)))] (by kernel_rfl) fun a42 hs43 => ?_
    refine nd_done ?_
    have hst44 := W.St.drop [] hst41
    have hst45 := W.St.drop [] hst44
    have hst46 := W.St.drop [] hst45
    exact to_ret (v := .bool ((r34.length : Int) == (0 : Int))) (by kernel_rfl) hbf Try.func7 hbk hs43 (by kernel_rfl) (hQ hr hm0 hst46 )
  rw [if_neg hb25] at hr
  rw [(eqF hb25)] at hs24
  refine to_else (.tmp 59) (sub [1, 1, 1, 1, 1, 1, 1, 0, 0, 0, 0, 1, 0, 1, 0] f7_c) (sub [1, 1, 1, 1, 1, 1, 1, 0, 0, 0, 0, 1, 0, 1, 1] f7_c) (by kernel_rfl) hs24 (by kernel_rfl) ?_
  refine to_skip (by kernel_rfl) ?_
  refine to_seq (sub [1, 1, 1, 1, 1, 1, 1, 0, 0, 0, 0, 1, 1, 0] f7_c) (sub [1, 1, 1, 1, 1, 1, 1, 0, 0, 0, 0, 1, 1, 1] f7_c) (by kernel_rfl) ?_
  refine to_nd 20 1 (rops (sub [1, 1, 1, 1, 1, 1, 1, 0, 0, 0, 0, 1, 1, 0] f7_c)) (by kernel_rfl) (by kernel_rfl) ?_
  refine nd_q (c := 0) 1 [2, 7, 11, 12, 13] hs24 [(2, .slice a_order'2 order'2.length c_order'2), (7, .pointer (some ⟨b5, 0, none⟩)), (11, .int .i64 i'11), (12, .slice a13_0_0 r13.length c13_0_0), (13, .int .i64 (0 : Int))] (by kernel_rfl) fun a47 hs48 => ?_
  refine nd_done ?_
  refine to_seq (sub [1, 1, 1, 1, 1, 1, 1, 0, 0, 0, 0, 1, 1, 1, 0] f7_c) (sub [1, 1, 1, 1, 1, 1, 1, 0, 0, 0, 0, 1, 1, 1, 1] f7_c) (by kernel_rfl) ?_
  refine to_seq (sub [1, 1, 1, 1, 1, 1, 1, 0, 0, 0, 0, 1, 1, 1, 0, 0] f7_c) (sub [1, 1, 1, 1, 1, 1, 1, 0, 0, 0, 0, 1, 1, 1, 0, 1] f7_c) (by kernel_rfl) ?_
  refine to_nd 21 4 (rops (sub [1, 1, 1, 1, 1, 1, 1, 0, 0, 0, 0, 1, 1, 1, 0, 0] f7_c)) (by kernel_rfl) (by kernel_rfl) ?_
  refine nd_q (c := 0) 4 [2, 7, 11, 12, 13, 67] hs48 [(2, .slice a_order'2 order'2.length c_order'2), (7, .pointer (some ⟨b5, 0, none⟩)), (11, .int .i64 i'11), (12, .slice a13_0_0 r13.length c13_0_0), (13, .int .i64 (0 : Int)), (67, .bool (decide (i'11 < (order'2.length : Int))))] (by kernel_rfl) fun a49 hs50 => ?_
  refine nd_done ?_
  by_cases hb51 : i'11 < (order'2.length : Int)
  rotate_left
  · rw [if_neg hb51] at hr
    rw [(decide_eq_false hb51)] at hs50
    refine to_else (.tmp 67) (sub [1, 1, 1, 1, 1, 1, 1, 0, 0, 0, 0, 1, 1, 1, 0, 1, 0] f7_c) (sub [1, 1, 1, 1, 1, 1, 1, 0, 0, 0, 0, 1, 1, 1, 0, 1, 1] f7_c) (by kernel_rfl) hs50 (by kernel_rfl) ?_
    refine to_skip (by kernel_rfl) ?_
    have hs74 := hs50.kept [2, 7, 11, 12, 13] [(2, .slice a_order'2 order'2.length c_order'2), (7, .pointer (some ⟨b5, 0, none⟩)), (11, .int .i64 i'11), (12, .slice a13_0_0 r13.length c13_0_0), (13, .int .i64 (0 : Int))] (by kernel_rfl)
    exact f7_j5_ok hbf hbk h_order'2  hQ hX hr hm0 hst20 hs74 ho6 h_i'11 (OwnSl.flat flat_int hf13_0_0) (inr_of (by kernel_rfl))
  rw [if_pos hb51] at hr
  rw [(decide_eq_true hb51)] at hs50
  refine to_then (.tmp 67) (sub [1, 1, 1, 1, 1, 1, 1, 0, 0, 0, 0, 1, 1, 1, 0, 1, 0] f7_c) (sub [1, 1, 1, 1, 1, 1, 1, 0, 0, 0, 0, 1, 1, 1, 0, 1, 1] f7_c) (by kernel_rfl) hs50 (by kernel_rfl) ?_
  refine to_seq (sub [1, 1, 1, 1, 1, 1, 1, 0, 0, 0, 0, 1, 1, 1, 0, 1, 0, 0] f7_c) (sub [1, 1, 1, 1, 1, 1, 1, 0, 0, 0, 0, 1, 1, 1, 0, 1, 0, 1] f7_c) (by kernel_rfl) ?_
  refine to_nd 22 8 (rops (sub [1, 1, 1, 1, 1, 1, 1, 0, 0, 0, 0, 1, 1, 1, 0, 1, 0, 0] f7_c)) (by kernel_rfl) (by kernel_rfl) ?_
  refine nd_q (c := 6) 2 [2, 7, 11, 12, 13, 68, 69] hs50 [(2, .slice a_order'2 order'2.length c_order'2), (7, .pointer (some ⟨b5, 0, none⟩)), (11, .int .i64 i'11), (12, .slice a13_0_0 r13.length c13_0_0), (13, .int .i64 (0 : Int)), (68, .slice a_order'2 order'2.length c_order'2), (69, .int .i64 i'11)] (by kernel_rfl) fun a52 hs53 => ?_
  obtain ⟨x54, hx54, hr⟩ := ofO_el hr
  obtain ⟨ad54, c54, hA54, hR54, hX54⟩ := Row.ix (h_order'2.mono hm0).1 hx54
  obtain ⟨he54, hf54⟩ := kInt_open hR54
  have hB54 := hA54.conv he54
  refine nd_v (i := 2) (c := 5) 70 (.pointer (some ad54)) hs53 (by kernel_rfl) (hX54 (P := Try.prog) (w := w14) (by kernel_rfl)) fun a55 hs56 => ?_
  refine nd_v (i := 3) (c := 4) 71 (.int .i64 x54) hs56 (by kernel_rfl) (ld1_run (P := Try.prog) (ad := ad54) (by kernel_rfl) (hB54.cell0 hst20 (Nat.le_of_ble_eq_true rfl))) fun a57 hs58 => ?_
  refine nd_q (c := 2) 2 [2, 7, 11, 12, 13, 71, 73] hs58 [(2, .slice a_order'2 order'2.length c_order'2), (7, .pointer (some ⟨b5, 0, none⟩)), (11, .int .i64 i'11), (12, .slice a13_0_0 r13.length c13_0_0), (13, .int .i64 (0 : Int)), (71, .int .i64 x54), (73, .int .i64 (r13.length : Int))] (by kernel_rfl) fun a59 hs60 => ?_
  obtain ⟨r61, hcq62, hr⟩ := ofO_el hr
  refine nd_v (i := 6) (c := 1) 74 (.int .i64 r61) hs60 (by kernel_rfl) (rem_run (P := Try.prog) (by kernel_rfl) hcq62) fun a63 hs64 => ?_
  refine nd_q (c := 0) 1 [2, 7, 11, 12, 13] hs64 [(2, .slice a_order'2 order'2.length c_order'2), (7, .pointer (some ⟨b5, 0, none⟩)), (11, .int .i64 i'11), (12, .slice a13_0_0 r13.length c13_0_0), (13, .int .i64 r61)] (by kernel_rfl) fun a65 hs66 => ?_
  refine nd_done ?_
  refine to_seq (sub [1, 1, 1, 1, 1, 1, 1, 0, 0, 0, 0, 1, 1, 1, 0, 1, 0, 1, 0] f7_c) (sub [1, 1, 1, 1, 1, 1, 1, 0, 0, 0, 0, 1, 1, 1, 0, 1, 0, 1, 1] f7_c) (by kernel_rfl) ?_
  refine to_nd 23 2 (rops (sub [1, 1, 1, 1, 1, 1, 1, 0, 0, 0, 0, 1, 1, 1, 0, 1, 0, 1, 0] f7_c)) (by kernel_rfl) (by kernel_rfl) ?_
  refine nd_q (c := 0) 2 [2, 7, 11, 12, 13, 76] hs66 [(2, .slice a_order'2 order'2.length c_order'2), (7, .pointer (some ⟨b5, 0, none⟩)), (11, .int .i64 i'11), (12, .slice a13_0_0 r13.length c13_0_0), (13, .int .i64 r61), (76, .bool (decide (r61 < (0 : Int))))] (by kernel_rfl) fun a67 hs68 => ?_
  refine nd_done ?_
  by_cases hb69 : r61 < (0 : Int)
  rotate_left
  · rw [if_neg hb69] at hr
    rw [(decide_eq_false hb69)] at hs68
    refine to_else (.tmp 76) (sub [1, 1, 1, 1, 1, 1, 1, 0, 0, 0, 0, 1, 1, 1, 0, 1, 0, 1, 1, 0] f7_c) (sub [1, 1, 1, 1, 1, 1, 1, 0, 0, 0, 0, 1, 1, 1, 0, 1, 0, 1, 1, 1] f7_c) (by kernel_rfl) hs68 (by kernel_rfl) ?_
    refine to_skip (by kernel_rfl) ?_
    have hs73 := hs68.kept [2, 7, 11, 12, 13] [(2, .slice a_order'2 order'2.length c_order'2), (7, .pointer (some ⟨b5, 0, none⟩)), (11, .int .i64 i'11), (12, .slice a13_0_0 r13.length c13_0_0), (13, .int .i64 r61)] (by kernel_rfl)
    exact f7_j5_ok hbf hbk h_order'2  hQ hX hr hm0 hst20 hs73 ho6 h_i'11 (OwnSl.flat flat_int hf13_0_0) (remI_in hcq62 hf54)
  rw [if_pos hb69] at hr
  rw [(decide_eq_true hb69)] at hs68
  refine to_then (.tmp 76) (sub [1, 1, 1, 1, 1, 1, 1, 0, 0, 0, 0, 1, 1, 1, 0, 1, 0, 1, 1, 0] f7_c) (sub [1, 1, 1, 1, 1, 1, 1, 0, 0, 0, 0, 1, 1, 1, 0, 1, 0, 1, 1, 1] f7_c) (by kernel_rfl) hs68 (by kernel_rfl) ?_
  refine to_nd 24 5 (rops (sub [1, 1, 1, 1, 1, 1, 1, 0, 0, 0, 0, 1, 1, 1, 0, 1, 0, 1, 1, 0] f7_c)) (by kernel_rfl) (by kernel_rfl) ?_
  refine nd_q (c := 0) 5 [2, 7, 11, 12, 13] hs68 [(2, .slice a_order'2 order'2.length c_order'2), (7, .pointer (some ⟨b5, 0, none⟩)), (11, .int .i64 i'11), (12, .slice a13_0_0 r13.length c13_0_0), (13, .int .i64 (w64 (r61 + (r13.length : Int))))] (by kernel_rfl) fun a70 hs71 => ?_
  refine nd_done ?_
  have hs72 := hs71.kept [2, 7, 11, 12, 13] [(2, .slice a_order'2 order'2.length c_order'2), (7, .pointer (some ⟨b5, 0, none⟩)), (11, .int .i64 i'11), (12, .slice a13_0_0 r13.length c13_0_0), (13, .int .i64 (w64 (r61 + (r13.length : Int))))] (by kernel_rfl)
  exact f7_j5_ok hbf hbk h_order'2  hQ hX hr hm0 hst20 hs72 ho6 h_i'11 (OwnSl.flat flat_int hf13_0_0) (wrap_in .i64 _)
def f7_j1_Y (z : Base) (m0 : Mem) (G : List Grp) (b : Frame) (cs : List Frame) (R : Ending → World → Prop) (a_x1 : Option Addr) (c_x1 : Nat) (a_x2 : Option Addr) (c_x2 : Nat) (x0 : Int) (x1 : (List S40)) (x2 : (List Int)) (c'7 : (Option S62)) (t'31 : Bool) : Prop := ∀ {m : Mem} {w : World} {a : Act} {p_c'7 : Option Addr} {I_c'7 : Grp}, m0.le m → W.St z w m (I_c'7 :: G) → Has 112 a [(0, .int .i64 x0), (1, .slice a_x1 x1.length c_x1), (2, .slice a_x2 x2.length c_x2), (7, .pointer p_c'7), (31, .bool t'31)] → (OwnN62 m p_c'7 I_c'7 c'7) → Reach Try.prog b cs R [.code (sub [1, 1, 1, 0, 1] f7_c), .code (sub [1, 1, 1, 1] f7_c)] a w
def f7_j1 (x0 : Int) (x1 : (List S40)) (x2 : (List Int)) (Q : Bool → Prop) (c'7 : (Option S62)) (t'31 : Bool) : Prop := if t'31 = true then (Q true) else (f7_l2 x0 x1 x2 (fun c'7e8 => f7_l3 x0 x2 (fun c'7e18 => f7_l4 x2 Q c'7e18 (0 : Int)) Q c'7e8 (1 : Int)) c'7 (0 : Int))
theorem f7_j1_ok {z : Base} {m0 : Mem} {G : List Grp} {b : Frame} {cs : List Frame} {R : Ending → World → Prop} {a_x1 : Option Addr} {c_x1 : Nat} {a_x2 : Option Addr} {c_x2 : Nat} {x0 : Int} {x1 : (List S40)} {x2 : (List Int)} {Q : Bool → Prop} (hbf : b.fn = 7) (hbk : b.kind = .normal) (h_x0 : InR .i64 x0) (h_x1 : Sl k40 48 m0 a_x1 c_x1 x1) (h_x2 : Sl (kInt .i64) 8 m0 a_x2 c_x2 x2)  (hQ : ∀ {r : Bool}, Q r → f7_YR z m0 G R  r) : ∀ {c'7 : (Option S62)} {t'31 : Bool}, f7_j1 x0 x1 x2 Q c'7 t'31 → f7_j1_Y z m0 G b cs R a_x1 c_x1 a_x2 c_x2 x0 x1 x2 c'7 t'31 := by
  intro c'7 t'31 hr m w a0 p_c'7 I_c'7 hm0 hst hs0 h_c'7
  unfold f7_j1 at hr
  by_cases hb1 : t'31 = true
  · rw [if_pos hb1] at hr
    rw [(bT hb1)] at hs0
    refine to_then (.tmp 31) (sub [1, 1, 1, 0, 1, 0] f7_c) (sub [1, 1, 1, 0, 1, 1] f7_c) (by kernel_rfl) hs0 (by kernel_rfl) ?_
    refine to_seq (sub [1, 1, 1, 0, 1, 0, 0] f7_c) (sub [1, 1, 1, 0, 1, 0, 1] f7_c) (by kernel_rfl) ?_
    refine to_nd 5 1 (rops (sub [1, 1, 1, 0, 1, 0, 0] f7_c)) (by kernel_rfl) (by kernel_rfl) ?_
    refine nd_q (c := 0) 1 [6] hs0 [(6, .bool true)] (by kernel_rfl) fun a2 hs3 => ?_
    refine nd_done ?_
    have hst4 := W.St.drop [] hst
    exact to_ret (v := .bool true) (by kernel_rfl) hbf Try.func7 hbk hs3 (by kernel_rfl) (hQ hr hm0 hst4 )
  rw [if_neg hb1] at hr
  rw [(bF hb1)] at hs0
  refine to_else (.tmp 31) (sub [1, 1, 1, 0, 1, 0] f7_c) (sub [1, 1, 1, 0, 1, 1] f7_c) (by kernel_rfl) hs0 (by kernel_rfl) ?_
  refine to_skip (by kernel_rfl) ?_
  refine to_seq (sub [1, 1, 1, 1, 0] f7_c) (sub [1, 1, 1, 1, 1] f7_c) (by kernel_rfl) ?_
  refine to_seq (sub [1, 1, 1, 1, 0, 0] f7_c) (sub [1, 1, 1, 1, 0, 1] f7_c) (by kernel_rfl) ?_
  refine to_nd 6 1 (rops (sub [1, 1, 1, 1, 0, 0] f7_c)) (by kernel_rfl) (by kernel_rfl) ?_
  refine nd_q (c := 0) 1 [0, 1, 2, 7, 9] hs0 [(0, .int .i64 x0), (1, .slice a_x1 x1.length c_x1), (2, .slice a_x2 x2.length c_x2), (7, .pointer p_c'7), (9, .int .i64 (0 : Int))] (by kernel_rfl) fun a5 hs6 => ?_
  refine nd_done ?_
  refine to_block 0 (sub [1, 1, 1, 1, 0, 1, 0] f7_c) (by kernel_rfl) ?_
  refine to_loop (sub [1, 1, 1, 1, 0, 1, 0, 0] f7_c) (by kernel_rfl) ?_
  have hs7 := hs6.kept [0, 1, 2, 7, 9] [(0, .int .i64 x0), (1, .slice a_x1 x1.length c_x1), (2, .slice a_x2 x2.length c_x2), (7, .pointer p_c'7), (9, .int .i64 (0 : Int))] (by kernel_rfl)
  refine f7_l2_ok hbf hbk h_x0 (h_x1.mono hm0) (h_x2.mono hm0)  ?_ hr (Mem.le.refl _) hst hs7 h_c'7 (inr_of (by kernel_rfl))
  intro c'7e8 hr
  intro m9 w11 a13 p_c'7e8 I_c'7e8 hm10 hst12 hs14 h_c'7e8
  refine to_seq (sub [1, 1, 1, 1, 1, 0] f7_c) (sub [1, 1, 1, 1, 1, 1] f7_c) (by kernel_rfl) ?_
  refine to_seq (sub [1, 1, 1, 1, 1, 0, 0] f7_c) (sub [1, 1, 1, 1, 1, 0, 1] f7_c) (by kernel_rfl) ?_
  refine to_nd 10 1 (rops (sub [1, 1, 1, 1, 1, 0, 0] f7_c)) (by kernel_rfl) (by kernel_rfl) ?_
  refine nd_q (c := 0) 1 [0, 2, 7, 10] hs14 [(0, .int .i64 x0), (2, .slice a_x2 x2.length c_x2), (7, .pointer p_c'7e8), (10, .int .i64 (1 : Int))] (by kernel_rfl) fun a15 hs16 => ?_
  refine nd_done ?_
  refine to_block 2 (sub [1, 1, 1, 1, 1, 0, 1, 0] f7_c) (by kernel_rfl) ?_
  refine to_loop (sub [1, 1, 1, 1, 1, 0, 1, 0, 0] f7_c) (by kernel_rfl) ?_
  have hs17 := hs16.kept [0, 2, 7, 10] [(0, .int .i64 x0), (2, .slice a_x2 x2.length c_x2), (7, .pointer p_c'7e8), (10, .int .i64 (1 : Int))] (by kernel_rfl)
  refine f7_l3_ok hbf hbk h_x0 (h_x2.mono (hm0.trans hm10))  ?_ (fun hq => f7_YR_mono (hm0.trans hm10) (hQ hq)) hr (Mem.le.refl _) hst12 hs17 h_c'7e8 (inr_of (by kernel_rfl))
  intro c'7e18 hr
  intro m19 w21 a23 p_c'7e18 I_c'7e18 hm20 hst22 hs24 h_c'7e18
  refine to_seq (sub [1, 1, 1, 1, 1, 1, 0] f7_c) (sub [1, 1, 1, 1, 1, 1, 1] f7_c) (by kernel_rfl) ?_
  refine to_nd 15 1 (rops (sub [1, 1, 1, 1, 1, 1, 0] f7_c)) (by kernel_rfl) (by kernel_rfl) ?_
  refine nd_q (c := 0) 1 [2, 7, 11] hs24 [(2, .slice a_x2 x2.length c_x2), (7, .pointer p_c'7e18), (11, .int .i64 (0 : Int))] (by kernel_rfl) fun a25 hs26 => ?_
  refine nd_done ?_
  refine to_block 4 (sub [1, 1, 1, 1, 1, 1, 1, 0] f7_c) (by kernel_rfl) ?_
  refine to_loop (sub [1, 1, 1, 1, 1, 1, 1, 0, 0] f7_c) (by kernel_rfl) ?_
  have hs27 := hs26.kept [2, 7, 11] [(2, .slice a_x2 x2.length c_x2), (7, .pointer p_c'7e18), (11, .int .i64 (0 : Int))] (by kernel_rfl)
  refine f7_l4_ok hbf hbk (h_x2.mono ((hm0.trans hm10).trans hm20))   (fun hq => f7_YR_mono ((hm0.trans hm10).trans hm20) (hQ hq)) hr (Mem.le.refl _) hst22 hs27 h_c'7e18 (inr_of (by kernel_rfl))
def f7  (x0 : Int) (x1 : (List S40)) (x2 : (List Int)) : M Bool := fun Q => f9 fun r3 => if r3 = true then (f10 x0 fun r15 => if r15.2 = (0 : Int) then (f13 x1 (40 : Int) fun r29 => f7_j1 x0 x1 x2 Q r15.1 (!r29)) else (f7_j1 x0 x1 x2 Q r15.1 true)) else (Q false)
theorem f7_ok  {z : Base} {w : World} {m : Mem} {G : List Grp} {a_x1 : Option Addr} {c_x1 : Nat} {a_x2 : Option Addr} {c_x2 : Nat} {x0 : Int} {x1 : (List S40)} {x2 : (List Int)} {Q : Bool → Prop} (hst : W.St z w m (G)) (h_x0 : InR .i64 x0) (h_x1 : Sl k40 48 m a_x1 c_x1 x1) (h_x2 : Sl (kInt .i64) 8 m a_x2 c_x2 x2) (hr : f7  x0 x1 x2 Q) : Calls Try.prog 7 #[.int .i64 x0, .slice a_x1 x1.length c_x1, .slice a_x2 x2.length c_x2] w (f7_post z m G  Q) := by
  refine calls_begin (c := f7_c) (n := 112) [.int .i64 x0, .slice a_x1 x1.length c_x1, .slice a_x2 x2.length c_x2] Try.func7 (by kernel_rfl) Try.ntmps7 (Nat.le_of_ble_eq_true rfl) fun b cs a0 hbf hbk hs0 => ?_
  have hm0 := Mem.le.refl m
  have hQ : ∀ {r : Bool}, Q r → f7_YR z m G (f7_post z m G  Q)  r := by intro r hq m' w'  hm' hst' ; exact ⟨r,  W.St.less hm' hst', rfl, hq⟩
  unfold f7 at hr
  refine to_seq (sub [0] f7_c) (sub [1] f7_c) (by kernel_rfl) ?_
  refine to_nd 0 1 (rops (sub [0] f7_c)) (by kernel_rfl) (by kernel_rfl) ?_
  refine nd_q (c := 0) 1 [0, 1, 2] hs0 [(0, .int .i64 x0), (1, .slice a_x1 x1.length c_x1), (2, .slice a_x2 x2.length c_x2)] (by kernel_rfl) fun a1 hs2 => ?_
  refine nd_done ?_
  refine to_seq (sub [1, 0] f7_c) (sub [1, 1] f7_c) (by kernel_rfl) ?_
  refine to_seq (sub [1, 0, 0] f7_c) (sub [1, 0, 1] f7_c) (by kernel_rfl) ?_
  refine to_nd 1 2 (rops (sub [1, 0, 0] f7_c)) (by kernel_rfl) (by kernel_rfl) ?_
  refine nd_op (op_call (some 18) hs2 (by kernel_rfl) (by kernel_rfl) ((f9_ok hst hr).mono ?_))
  rintro _ w4 ⟨r3, hst7, rfl, hr⟩
  revert hr; intro hr
  refine ⟨_, rfl, fun a5 hs6 => ?_⟩
  refine nd_q (c := 0) 1 [0, 1, 2, 19] hs6 [(0, .int .i64 x0), (1, .slice a_x1 x1.length c_x1), (2, .slice a_x2 x2.length c_x2), (19, .bool (!r3))] (by kernel_rfl) fun a10 hs11 => ?_
  refine nd_done ?_
  by_cases hb12 : r3 = true
  rotate_left
  · rw [if_neg hb12] at hr
    rw [(bF hb12)] at hs11
    refine to_then (.tmp 19) (sub [1, 0, 1, 0] f7_c) (sub [1, 0, 1, 1] f7_c) (by kernel_rfl) hs11 (by kernel_rfl) ?_
    refine to_seq (sub [1, 0, 1, 0, 0] f7_c) (sub [1, 0, 1, 0, 1] f7_c) (by kernel_rfl) ?_
    refine to_nd 2 1 (rops (sub [1, 0, 1, 0, 0] f7_c)) (by kernel_rfl) (by kernel_rfl) ?_
    refine nd_q (c := 0) 1 [6] hs11 [(6, .bool false)] (by kernel_rfl) fun a42 hs43 => ?_
    refine nd_done ?_
    exact to_ret (v := .bool false) (by kernel_rfl) hbf Try.func7 hbk hs43 (by kernel_rfl) (hQ hr (Mem.le.refl _) hst7 )
  rw [if_pos hb12] at hr
  rw [(bT hb12)] at hs11
  refine to_else (.tmp 19) (sub [1, 0, 1, 0] f7_c) (sub [1, 0, 1, 1] f7_c) (by kernel_rfl) hs11 (by kernel_rfl) ?_
  refine to_skip (by kernel_rfl) ?_
  refine to_seq (sub [1, 1, 0] f7_c) (sub [1, 1, 1] f7_c) (by kernel_rfl) ?_
  refine to_nd 3 7 (rops (sub [1, 1, 0] f7_c)) (by kernel_rfl) (by kernel_rfl) ?_
  refine nd_q (c := 6) 1 [0, 1, 2, 21] hs11 [(0, .int .i64 x0), (1, .slice a_x1 x1.length c_x1), (2, .slice a_x2 x2.length c_x2), (21, .int .i64 x0)] (by kernel_rfl) fun a13 hs14 => ?_
  refine nd_op (op_call (some 22) hs14 (by kernel_rfl) (by kernel_rfl) ((f10_ok hst7 h_x0 hr).mono ?_))
  rintro _ w16 ⟨r15, p15_0_0, I15_0_0, hst19, rfl, hf15_0_0, hf15_1_0, hr⟩
  revert hr; intro hr
  refine ⟨_, rfl, fun a17 hs18 => ?_⟩
  refine nd_q (c := 0) 5 [0, 1, 2, 7, 8] hs18 [(0, .int .i64 x0), (1, .slice a_x1 x1.length c_x1), (2, .slice a_x2 x2.length c_x2), (7, .pointer p15_0_0), (8, .int .i64 r15.2)] (by kernel_rfl) fun a22 hs23 => ?_
  refine nd_done ?_
  refine to_seq (sub [1, 1, 1, 0] f7_c) (sub [1, 1, 1, 1] f7_c) (by kernel_rfl) ?_
  refine to_seq (sub [1, 1, 1, 0, 0] f7_c) (sub [1, 1, 1, 0, 1] f7_c) (by kernel_rfl) ?_
  refine to_nd 4 7 (rops (sub [1, 1, 1, 0, 0] f7_c)) (by kernel_rfl) (by kernel_rfl) ?_
  refine nd_q (c := 4) 3 [0, 1, 2, 7, 27] hs23 [(0, .int .i64 x0), (1, .slice a_x1 x1.length c_x1), (2, .slice a_x2 x2.length c_x2), (7, .pointer p15_0_0), (27, .bool (r15.2 != (0 : Int)))] (by kernel_rfl) fun a24 hs25 => ?_
  by_cases hb26 : r15.2 = (0 : Int)
  rotate_left
  · rw [if_neg hb26] at hr
    rw [(neT hb26)] at hs25
    refine nd_q (c := 0) 4 [0, 1, 2, 7, 31] hs25 [(0, .int .i64 x0), (1, .slice a_x1 x1.length c_x1), (2, .slice a_x2 x2.length c_x2), (7, .pointer p15_0_0), (31, .bool true)] (by kernel_rfl) fun a39 hs40 => ?_
    refine nd_done ?_
    have hs41 := hs40.kept [0, 1, 2, 7, 31] [(0, .int .i64 x0), (1, .slice a_x1 x1.length c_x1), (2, .slice a_x2 x2.length c_x2), (7, .pointer p15_0_0), (31, .bool true)] (by kernel_rfl)
    exact f7_j1_ok hbf hbk h_x0 h_x1 h_x2  hQ hr (Mem.le.refl _) hst19 hs41 hf15_0_0
  rw [if_pos hb26] at hr
  rw [(neF hb26)] at hs25
  refine nd_q (c := 3) 1 [0, 1, 2, 7, 27, 28] hs25 [(0, .int .i64 x0), (1, .slice a_x1 x1.length c_x1), (2, .slice a_x2 x2.length c_x2), (7, .pointer p15_0_0), (27, .bool false), (28, .slice a_x1 x1.length c_x1)] (by kernel_rfl) fun a27 hs28 => ?_
  refine nd_op (op_call (some 29) hs28 (by kernel_rfl) (by kernel_rfl) ((f13_ok hst19 h_x1 (inr_of (by kernel_rfl)) hr).mono ?_))
  rintro _ w30 ⟨r29, hst33, rfl, hr⟩
  revert hr; intro hr
  refine ⟨_, rfl, fun a31 hs32 => ?_⟩
  refine nd_q (c := 0) 2 [0, 1, 2, 7, 31] hs32 [(0, .int .i64 x0), (1, .slice a_x1 x1.length c_x1), (2, .slice a_x2 x2.length c_x2), (7, .pointer p15_0_0), (31, .bool (!r29))] (by kernel_rfl) fun a36 hs37 => ?_
  refine nd_done ?_
  have hs38 := hs37.kept [0, 1, 2, 7, 31] [(0, .int .i64 x0), (1, .slice a_x1 x1.length c_x1), (2, .slice a_x2 x2.length c_x2), (7, .pointer p15_0_0), (31, .bool (!r29))] (by kernel_rfl)
  exact f7_j1_ok hbf hbk h_x0 h_x1 h_x2  hQ hr (Mem.le.refl _) hst33 hs38 hf15_0_0
def PureChannelConnects : Prop := ∀ (x0 : Int) (x1 : (List S40)) (x2 : (List Int)), (InR .i64) x0 → (WL W40 48) x1 → (WL (InR .i64) 8) x2 →  f7 x0 x1 x2 (fun r => r = true)
end Go.Proofs.Ytcnlbnccghjeaaa.W
