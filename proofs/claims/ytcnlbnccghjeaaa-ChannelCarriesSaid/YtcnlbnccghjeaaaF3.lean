/- Printed by gen2.py: Go functions as Lean functions, and the proofs that the calls come to them. Conditions: none. -/
import Derived.Test.YtcnlbnccghjeaaaF2
set_option linter.unusedVariables false
set_option linter.unusedSimpArgs false
set_option maxRecDepth 100000
namespace Go.Proofs.Ytcnlbnccghjeaaa.W
open Go

/-! ### 9: salchow/salchowlaw50.awake -/
noncomputable def f9_c : Code := codeOf Try.f9
def f9_post (z : Base) (m : Mem) (G : List Grp)  (Q : Bool → Prop) : Ending → World → Prop := fun e w' => ∃ (r : Bool) , W.St z w' m (G) ∧ e = .returned (.bool r) ∧ Q r
def f9_YR (z : Base) (m0 : Mem) (G : List Grp) (R : Ending → World → Prop)  (r : Bool) : Prop := ∀ {m : Mem} {w : World} , m0.le m → W.St z w m (G) →  R (.returned (.bool r)) w
theorem f9_YR_mono {z : Base} {m0 m1 : Mem} {G : List Grp} {R : Ending → World → Prop}  {r : Bool} (hm : m0.le m1) (h : f9_YR z m0 G R  r) : f9_YR z m1 G R  r := by
  intro m w  hm'
  exact h (hm.trans hm')
def f9_j1_Y (z : Base) (m0 : Mem) (G : List Grp) (b : Frame) (cs : List Frame) (R : Ending → World → Prop)  (c'1 : (Option S62)) (t'29 : Bool) : Prop := ∀ {m : Mem} {w : World} {a : Act} {p_c'1 : Option Addr} {I_c'1 : Grp}, m0.le m → W.St z w m (I_c'1 :: G) → Has 146 a [(1, .pointer p_c'1), (29, .bool t'29)] → (OwnN62 m p_c'1 I_c'1 c'1) → Reach Try.prog b cs R [.code (sub [1, 1, 0, 1] f9_c), .code (sub [1, 1, 1] f9_c)] a w
def f9_j1 (Q : Bool → Prop) (c'1 : (Option S62)) (t'29 : Bool) : Prop := if t'29 = true then (Q false) else (onPtr c'1 False (fun y7 => f21 y7 (0 : Int) (1 : Int) (lit [120]) fun r11 => f21 r11.2.2 (2 : Int) (0 : Int) (lit [121, 122]) fun r22 => f21 r22.2.2 (1 : Int) (2 : Int) (lit [122]) fun r33 => f24 r33.2.2 (1 : Int) true fun r44 => f25 r44.2 (0 : Int) fun r55 => f22 r55.2.2 (1 : Int) fun r77 => f23 r77.2.2 (1 : Int) (0 : Int) (113 : Int) fun r88 => f25 r88.2 (2 : Int) fun r99 => f11 r99.2.2 fun r127 => if r11.1 = (0 : Int) then (if r11.2.1 = (0 : Int) then (if r22.1 = (1 : Int) then (if r22.2.1 = (0 : Int) then (if r33.2.1 = (1 : Int) then (if r44.1 = (0 : Int) then (if r55.2.1 = (7 : Int) then (if r77.1 = (2 : Int) then (if r77.2.1 = (0 : Int) then (if r88.1 = (0 : Int) then (if r99.2.1 = (0 : Int) then (if ((r99.1.f0 == (2 : Int)) && ((r99.1.f1 == (0 : Int)) && ((r99.1.f2.toList == (lit [121, 122]).toList) && true))) = true then (f12 r99.2.2 fun r189 => f17 r189 ([(0 : Int), (1 : Int)]) fun r215 => if r215 = true then (f19 r99.2.2 fun r236 => f17 r236 ([(1 : Int)]) fun r262 => if r262 = true then (if r127.1 = (3 : Int) then (if r127.2.1 = (1 : Int) then (if r127.2.2 = (0 : Int) then (f26 r99.2.2 (0 : Int) fun r286 => Q (r286.1 == (0 : Int))) else (Q false)) else (Q false)) else (Q false)) else (Q false)) else (Q false)) else (Q false)) else (Q false)) else (Q false)) else (Q false)) else (Q false)) else (Q false)) else (Q false)) else (Q false)) else (Q false)) else (Q false)) else (Q false)) else (Q false)))
theorem f9_j1_ok {z : Base} {m0 : Mem} {G : List Grp} {b : Frame} {cs : List Frame} {R : Ending → World → Prop} {Q : Bool → Prop} (hbf : b.fn = 9) (hbk : b.kind = .normal)   (hQ : ∀ {r : Bool}, Q r → f9_YR z m0 G R  r) : ∀ {c'1 : (Option S62)} {t'29 : Bool}, f9_j1 Q c'1 t'29 → f9_j1_Y z m0 G b cs R  c'1 t'29 := by
  intro c'1 t'29 hr m w a0 p_c'1 I_c'1 hm0 hst hs0 h_c'1
  unfold f9_j1 at hr
  by_cases hb1 : t'29 = true
  · rw [if_pos hb1] at hr
    rw [(bT hb1)] at hs0
    refine to_then (.tmp 29) (sub [1, 1, 0, 1, 0] f9_c) (sub [1, 1, 0, 1, 1] f9_c) (by kernel_rfl) hs0 (by kernel_rfl) ?_
    refine to_seq (sub [1, 1, 0, 1, 0, 0] f9_c) (sub [1, 1, 0, 1, 0, 1] f9_c) (by kernel_rfl) ?_
    refine to_nd 3 1 (rops (sub [1, 1, 0, 1, 0, 0] f9_c)) (by kernel_rfl) (by kernel_rfl) ?_
    refine nd_q (c := 0) 1 [0] hs0 [(0, .bool false)] (by kernel_rfl) fun a2 hs3 => ?_
    refine nd_done ?_
    have hst4 := W.St.drop [] hst
    exact to_ret (v := .bool false) (by kernel_rfl) hbf Try.func9 hbk hs3 (by kernel_rfl) (hQ hr hm0 hst4 )
  rw [if_neg hb1] at hr
  rw [(bF hb1)] at hs0
  refine to_else (.tmp 29) (sub [1, 1, 0, 1, 0] f9_c) (sub [1, 1, 0, 1, 1] f9_c) (by kernel_rfl) hs0 (by kernel_rfl) ?_
  refine to_skip (by kernel_rfl) ?_
  refine to_seq (sub [1, 1, 1, 0] f9_c) (sub [1, 1, 1, 1] f9_c) (by kernel_rfl) ?_
  refine to_nd 4 7 (rops (sub [1, 1, 1, 0] f9_c)) (by kernel_rfl) (by kernel_rfl) ?_
  refine nd_q (c := 6) 1 [1, 31] hs0 [(1, .pointer p_c'1), (31, .pointer p_c'1)] (by kernel_rfl) fun a5 hs6 => ?_
  obtain ⟨hx8, _⟩ | ⟨b9, y7, hx8, rfl, ho10⟩ := h_c'1
  · exact (onPtr_none hx8 hr).elim
  replace hr := onPtr_some hx8 hr
  refine nd_op (op_call (some 32) hs6 (by kernel_rfl) (by kernel_rfl) ((f21_ok hst ho10 (inr_of (by kernel_rfl)) (inr_of (by kernel_rfl)) (lit_small (by decide)) hr).mono ?_))
  rintro _ w12 ⟨r11, I11_i0, hst15, rfl, hf11_0_0, hf11_1_0, hf11_i0, hr⟩
  revert hr; intro hr
  refine ⟨_, rfl, fun a13 hs14 => ?_⟩
  refine nd_q (c := 0) 5 [1, 3, 4] hs14 [(1, .pointer (some ⟨b9, 0, none⟩)), (3, .int .i64 r11.1), (4, .int .i64 r11.2.1)] (by kernel_rfl) fun a18 hs19 => ?_
  refine nd_done ?_
  refine to_seq (sub [1, 1, 1, 1, 0] f9_c) (sub [1, 1, 1, 1, 1] f9_c) (by kernel_rfl) ?_
  refine to_nd 5 7 (rops (sub [1, 1, 1, 1, 0] f9_c)) (by kernel_rfl) (by kernel_rfl) ?_
  refine nd_q (c := 6) 1 [1, 3, 4, 36] hs19 [(1, .pointer (some ⟨b9, 0, none⟩)), (3, .int .i64 r11.1), (4, .int .i64 r11.2.1), (36, .pointer (some ⟨b9, 0, none⟩))] (by kernel_rfl) fun a20 hs21 => ?_
  refine nd_op (op_call (some 37) hs21 (by kernel_rfl) (by kernel_rfl) ((f21_ok hst15 hf11_i0 (inr_of (by kernel_rfl)) (inr_of (by kernel_rfl)) (lit_small (by decide)) hr).mono ?_))
  rintro _ w23 ⟨r22, I22_i0, hst26, rfl, hf22_0_0, hf22_1_0, hf22_i0, hr⟩
  revert hr; intro hr
  refine ⟨_, rfl, fun a24 hs25 => ?_⟩
  refine nd_q (c := 0) 5 [1, 3, 4, 5, 6] hs25 [(1, .pointer (some ⟨b9, 0, none⟩)), (3, .int .i64 r11.1), (4, .int .i64 r11.2.1), (5, .int .i64 r22.1), (6, .int .i64 r22.2.1)] (by kernel_rfl) fun a29 hs30 => ?_
  refine nd_done ?_
  refine to_seq (sub [1, 1, 1, 1, 1, 0] f9_c) (sub [1, 1, 1, 1, 1, 1] f9_c) (by kernel_rfl) ?_
  refine to_nd 6 7 (rops (sub [1, 1, 1, 1, 1, 0] f9_c)) (by kernel_rfl) (by kernel_rfl) ?_
  refine nd_q (c := 6) 1 [1, 3, 4, 5, 6, 41] hs30 [(1, .pointer (some ⟨b9, 0, none⟩)), (3, .int .i64 r11.1), (4, .int .i64 r11.2.1), (5, .int .i64 r22.1), (6, .int .i64 r22.2.1), (41, .pointer (some ⟨b9, 0, none⟩))] (by kernel_rfl) fun a31 hs32 => ?_
  refine nd_op (op_call (some 42) hs32 (by kernel_rfl) (by kernel_rfl) ((f21_ok hst26 hf22_i0 (inr_of (by kernel_rfl)) (inr_of (by kernel_rfl)) (lit_small (by decide)) hr).mono ?_))
  rintro _ w34 ⟨r33, I33_i0, hst37, rfl, hf33_0_0, hf33_1_0, hf33_i0, hr⟩
  revert hr; intro hr
  refine ⟨_, rfl, fun a35 hs36 => ?_⟩
  refine nd_q (c := 0) 5 [1, 3, 4, 5, 6, 8] hs36 [(1, .pointer (some ⟨b9, 0, none⟩)), (3, .int .i64 r11.1), (4, .int .i64 r11.2.1), (5, .int .i64 r22.1), (6, .int .i64 r22.2.1), (8, .int .i64 r33.2.1)] (by kernel_rfl) fun a40 hs41 => ?_
  refine nd_done ?_
  refine to_seq (sub [1, 1, 1, 1, 1, 1, 0] f9_c) (sub [1, 1, 1, 1, 1, 1, 1] f9_c) (by kernel_rfl) ?_
  refine to_nd 7 3 (rops (sub [1, 1, 1, 1, 1, 1, 0] f9_c)) (by kernel_rfl) (by kernel_rfl) ?_
  refine nd_q (c := 2) 1 [1, 3, 4, 5, 6, 8, 45] hs41 [(1, .pointer (some ⟨b9, 0, none⟩)), (3, .int .i64 r11.1), (4, .int .i64 r11.2.1), (5, .int .i64 r22.1), (6, .int .i64 r22.2.1), (8, .int .i64 r33.2.1), (45, .pointer (some ⟨b9, 0, none⟩))] (by kernel_rfl) fun a42 hs43 => ?_
  refine nd_op (op_call (some 46) hs43 (by kernel_rfl) (by kernel_rfl) ((f24_ok hst37 hf33_i0 (inr_of (by kernel_rfl)) hr).mono ?_))
  rintro _ w45 ⟨r44, I44_i0, hst48, rfl, hf44_0_0, hf44_i0, hr⟩
  revert hr; intro hr
  refine ⟨_, rfl, fun a46 hs47 => ?_⟩
  refine nd_q (c := 0) 1 [1, 3, 4, 5, 6, 8, 9] hs47 [(1, .pointer (some ⟨b9, 0, none⟩)), (3, .int .i64 r11.1), (4, .int .i64 r11.2.1), (5, .int .i64 r22.1), (6, .int .i64 r22.2.1), (8, .int .i64 r33.2.1), (9, .int .i64 r44.1)] (by kernel_rfl) fun a51 hs52 => ?_
  refine nd_done ?_
  refine to_seq (sub [1, 1, 1, 1, 1, 1, 1, 0] f9_c) (sub [1, 1, 1, 1, 1, 1, 1, 1] f9_c) (by kernel_rfl) ?_
  refine to_nd 8 8 (rops (sub [1, 1, 1, 1, 1, 1, 1, 0] f9_c)) (by kernel_rfl) (by kernel_rfl) ?_
  refine nd_q (c := 7) 1 [1, 3, 4, 5, 6, 8, 9, 48] hs52 [(1, .pointer (some ⟨b9, 0, none⟩)), (3, .int .i64 r11.1), (4, .int .i64 r11.2.1), (5, .int .i64 r22.1), (6, .int .i64 r22.2.1), (8, .int .i64 r33.2.1), (9, .int .i64 r44.1), (48, .pointer (some ⟨b9, 0, none⟩))] (by kernel_rfl) fun a53 hs54 => ?_
  refine nd_op (op_call (some 49) hs54 (by kernel_rfl) (by kernel_rfl) ((f25_ok hst48 hf44_i0 (inr_of (by kernel_rfl)) hr).mono ?_))
  rintro _ w56 ⟨r55, I55_i0, hst59, rfl, hf55_0_0, hf55_0_1, hf55_0_2, hf55_1_0, hf55_i0, hr⟩
  revert hr; intro hr
  refine ⟨_, rfl, fun a57 hs58 => ?_⟩
  refine nd_q (c := 3) 3 [1, 3, 4, 5, 6, 8, 9, 50, 51] hs58 [(1, .pointer (some ⟨b9, 0, none⟩)), (3, .int .i64 r11.1), (4, .int .i64 r11.2.1), (5, .int .i64 r22.1), (6, .int .i64 r22.2.1), (8, .int .i64 r33.2.1), (9, .int .i64 r44.1), (50, .agg #[.int .i64 r55.1.f0, .int .i64 r55.1.f1, .string r55.1.f2]), (51, .int .i64 r55.2.1)] (by kernel_rfl) fun a62 hs63 => ?_
  have hst66 := hst59.alloc (.cells [.int .i64 (0 : Int), .int .i64 (0 : Int), .string ByteArray.empty].toArray 37 (0, 0))
  refine nd_op (op_v (w' := w56.alloc (.cells [.int .i64 (0 : Int), .int .i64 (0 : Int), .string ByteArray.empty].toArray 37 (0, 0))) (some 10) (.pointer (some ⟨w56.heap.size, 0, none⟩)) hs63 (by kernel_rfl) (by kernel_rfl) fun a67 hs68 => ?_)
  generalize w56.heap.size = b64 at hst66 hs68
  generalize w56.alloc (.cells [.int .i64 (0 : Int), .int .i64 (0 : Int), .string ByteArray.empty].toArray 37 (0, 0)) = w65 at hst66 ⊢
  obtain ⟨wq69, hxq69, hstq69⟩ := stq_run (P := Try.prog) (o := opAt (rops (sub [1, 1, 1, 1, 1, 1, 1, 0] f9_c)) 6) (ρ := Env.rho hs68.env) (off := 0) (vs := [.int .i64 r55.1.f0, .int .i64 r55.1.f1, .string r55.1.f2]) (by kernel_rfl) (by kernel_rfl) (Nat.le_of_ble_eq_true rfl) hst66 [.int .i64 r55.1.f0, .int .i64 r55.1.f1, .string r55.1.f2] rfl
  refine nd_op (op_s none hs68 (by kernel_rfl) hxq69 fun a70 hs71 => ?_)
  refine nd_q (c := 0) 1 [1, 3, 4, 5, 6, 8, 9, 11] hs71 [(1, .pointer (some ⟨b9, 0, none⟩)), (3, .int .i64 r11.1), (4, .int .i64 r11.2.1), (5, .int .i64 r22.1), (6, .int .i64 r22.2.1), (8, .int .i64 r33.2.1), (9, .int .i64 r44.1), (11, .int .i64 r55.2.1)] (by kernel_rfl) fun a72 hs73 => ?_
  refine nd_done ?_
  refine to_seq (sub [1, 1, 1, 1, 1, 1, 1, 1, 0] f9_c) (sub [1, 1, 1, 1, 1, 1, 1, 1, 1] f9_c) (by kernel_rfl) ?_
  refine to_nd 9 7 (rops (sub [1, 1, 1, 1, 1, 1, 1, 1, 0] f9_c)) (by kernel_rfl) (by kernel_rfl) ?_
  refine nd_q (c := 6) 1 [1, 3, 4, 5, 6, 8, 9, 11, 53] hs73 [(1, .pointer (some ⟨b9, 0, none⟩)), (3, .int .i64 r11.1), (4, .int .i64 r11.2.1), (5, .int .i64 r22.1), (6, .int .i64 r22.2.1), (8, .int .i64 r33.2.1), (9, .int .i64 r44.1), (11, .int .i64 r55.2.1), (53, .pointer (some ⟨b9, 0, none⟩))] (by kernel_rfl) fun a74 hs75 => ?_
  have hst76 := W.St.front [_] hstq69
  refine nd_op (op_call (some 54) hs75 (by kernel_rfl) (by kernel_rfl) ((f22_ok hst76 hf55_i0 (inr_of (by kernel_rfl)) hr).mono ?_))
  rintro _ w78 ⟨r77, I77_i0, hst81, rfl, hf77_0_0, hf77_1_0, hf77_i0, hr⟩
  revert hr; intro hr
  refine ⟨_, rfl, fun a79 hs80 => ?_⟩
  refine nd_q (c := 0) 5 [1, 3, 4, 5, 6, 8, 9, 11, 12, 13] hs80 [(1, .pointer (some ⟨b9, 0, none⟩)), (3, .int .i64 r11.1), (4, .int .i64 r11.2.1), (5, .int .i64 r22.1), (6, .int .i64 r22.2.1), (8, .int .i64 r33.2.1), (9, .int .i64 r44.1), (11, .int .i64 r55.2.1), (12, .int .i64 r77.1), (13, .int .i64 r77.2.1)] (by kernel_rfl) fun a84 hs85 => ?_
  refine nd_done ?_
  refine to_seq (sub [1, 1, 1, 1, 1, 1, 1, 1, 1, 0] f9_c) (sub [1, 1, 1, 1, 1, 1, 1, 1, 1, 1] f9_c) (by kernel_rfl) ?_
  refine to_nd 10 3 (rops (sub [1, 1, 1, 1, 1, 1, 1, 1, 1, 0] f9_c)) (by kernel_rfl) (by kernel_rfl) ?_
  refine nd_q (c := 2) 1 [1, 3, 4, 5, 6, 8, 9, 11, 12, 13, 57] hs85 [(1, .pointer (some ⟨b9, 0, none⟩)), (3, .int .i64 r11.1), (4, .int .i64 r11.2.1), (5, .int .i64 r22.1), (6, .int .i64 r22.2.1), (8, .int .i64 r33.2.1), (9, .int .i64 r44.1), (11, .int .i64 r55.2.1), (12, .int .i64 r77.1), (13, .int .i64 r77.2.1), (57, .pointer (some ⟨b9, 0, none⟩))] (by kernel_rfl) fun a86 hs87 => ?_
  refine nd_op (op_call (some 58) hs87 (by kernel_rfl) (by kernel_rfl) ((f23_ok hst81 hf77_i0 (inr_of (by kernel_rfl)) (inr_of (by kernel_rfl)) (inr_of (by kernel_rfl)) hr).mono ?_))
  rintro _ w89 ⟨r88, I88_i0, hst92, rfl, hf88_0_0, hf88_i0, hr⟩
  revert hr; intro hr
  refine ⟨_, rfl, fun a90 hs91 => ?_⟩
  refine nd_q (c := 0) 1 [1, 3, 4, 5, 6, 8, 9, 11, 12, 13, 14] hs91 [(1, .pointer (some ⟨b9, 0, none⟩)), (3, .int .i64 r11.1), (4, .int .i64 r11.2.1), (5, .int .i64 r22.1), (6, .int .i64 r22.2.1), (8, .int .i64 r33.2.1), (9, .int .i64 r44.1), (11, .int .i64 r55.2.1), (12, .int .i64 r77.1), (13, .int .i64 r77.2.1), (14, .int .i64 r88.1)] (by kernel_rfl) fun a95 hs96 => ?_
  refine nd_done ?_
  refine to_seq (sub [1, 1, 1, 1, 1, 1, 1, 1, 1, 1, 0] f9_c) (sub [1, 1, 1, 1, 1, 1, 1, 1, 1, 1, 1] f9_c) (by kernel_rfl) ?_
  refine to_nd 11 8 (rops (sub [1, 1, 1, 1, 1, 1, 1, 1, 1, 1, 0] f9_c)) (by kernel_rfl) (by kernel_rfl) ?_
  refine nd_q (c := 7) 1 [1, 3, 4, 5, 6, 8, 9, 11, 12, 13, 14, 60] hs96 [(1, .pointer (some ⟨b9, 0, none⟩)), (3, .int .i64 r11.1), (4, .int .i64 r11.2.1), (5, .int .i64 r22.1), (6, .int .i64 r22.2.1), (8, .int .i64 r33.2.1), (9, .int .i64 r44.1), (11, .int .i64 r55.2.1), (12, .int .i64 r77.1), (13, .int .i64 r77.2.1), (14, .int .i64 r88.1), (60, .pointer (some ⟨b9, 0, none⟩))] (by kernel_rfl) fun a97 hs98 => ?_
  refine nd_op (op_call (some 61) hs98 (by kernel_rfl) (by kernel_rfl) ((f25_ok hst92 hf88_i0 (inr_of (by kernel_rfl)) hr).mono ?_))
  rintro _ w100 ⟨r99, I99_i0, hst103, rfl, hf99_0_0, hf99_0_1, hf99_0_2, hf99_1_0, hf99_i0, hr⟩
  revert hr; intro hr
  refine ⟨_, rfl, fun a101 hs102 => ?_⟩
  refine nd_q (c := 3) 3 [1, 3, 4, 5, 6, 8, 9, 11, 12, 13, 14, 62, 63] hs102 [(1, .pointer (some ⟨b9, 0, none⟩)), (3, .int .i64 r11.1), (4, .int .i64 r11.2.1), (5, .int .i64 r22.1), (6, .int .i64 r22.2.1), (8, .int .i64 r33.2.1), (9, .int .i64 r44.1), (11, .int .i64 r55.2.1), (12, .int .i64 r77.1), (13, .int .i64 r77.2.1), (14, .int .i64 r88.1), (62, .agg #[.int .i64 r99.1.f0, .int .i64 r99.1.f1, .string r99.1.f2]), (63, .int .i64 r99.2.1)] (by kernel_rfl) fun a106 hs107 => ?_
  have hst110 := hst103.alloc (.cells [.int .i64 (0 : Int), .int .i64 (0 : Int), .string ByteArray.empty].toArray 37 (0, 0))
  refine nd_op (op_v (w' := w100.alloc (.cells [.int .i64 (0 : Int), .int .i64 (0 : Int), .string ByteArray.empty].toArray 37 (0, 0))) (some 15) (.pointer (some ⟨w100.heap.size, 0, none⟩)) hs107 (by kernel_rfl) (by kernel_rfl) fun a111 hs112 => ?_)
  generalize w100.heap.size = b108 at hst110 hs112
  generalize w100.alloc (.cells [.int .i64 (0 : Int), .int .i64 (0 : Int), .string ByteArray.empty].toArray 37 (0, 0)) = w109 at hst110 ⊢
  obtain ⟨wq113, hxq113, hstq113⟩ := stq_run (P := Try.prog) (o := opAt (rops (sub [1, 1, 1, 1, 1, 1, 1, 1, 1, 1, 0] f9_c)) 6) (ρ := Env.rho hs112.env) (off := 0) (vs := [.int .i64 r99.1.f0, .int .i64 r99.1.f1, .string r99.1.f2]) (by kernel_rfl) (by kernel_rfl) (Nat.le_of_ble_eq_true rfl) hst110 [.int .i64 r99.1.f0, .int .i64 r99.1.f1, .string r99.1.f2] rfl
  refine nd_op (op_s none hs112 (by kernel_rfl) hxq113 fun a114 hs115 => ?_)
  refine nd_q (c := 0) 1 [1, 3, 4, 5, 6, 8, 9, 11, 12, 13, 14, 15, 16] hs115 [(1, .pointer (some ⟨b9, 0, none⟩)), (3, .int .i64 r11.1), (4, .int .i64 r11.2.1), (5, .int .i64 r22.1), (6, .int .i64 r22.2.1), (8, .int .i64 r33.2.1), (9, .int .i64 r44.1), (11, .int .i64 r55.2.1), (12, .int .i64 r77.1), (13, .int .i64 r77.2.1), (14, .int .i64 r88.1), (15, .pointer (some ⟨b108, 0, none⟩)), (16, .int .i64 r99.2.1)] (by kernel_rfl) fun a116 hs117 => ?_
  refine nd_done ?_
  refine to_seq (sub [1, 1, 1, 1, 1, 1, 1, 1, 1, 1, 1, 0] f9_c) (sub [1, 1, 1, 1, 1, 1, 1, 1, 1, 1, 1, 1] f9_c) (by kernel_rfl) ?_
  refine to_nd 12 9 (rops (sub [1, 1, 1, 1, 1, 1, 1, 1, 1, 1, 1, 0] f9_c)) (by kernel_rfl) (by kernel_rfl) ?_
  refine nd_q (c := 8) 1 [1, 3, 4, 5, 6, 8, 9, 11, 12, 13, 14, 15, 16, 65] hs117 [(1, .pointer (some ⟨b9, 0, none⟩)), (3, .int .i64 r11.1), (4, .int .i64 r11.2.1), (5, .int .i64 r22.1), (6, .int .i64 r22.2.1), (8, .int .i64 r33.2.1), (9, .int .i64 r44.1), (11, .int .i64 r55.2.1), (12, .int .i64 r77.1), (13, .int .i64 r77.2.1), (14, .int .i64 r88.1), (15, .pointer (some ⟨b108, 0, none⟩)), (16, .int .i64 r99.2.1), (65, .pointer (some ⟨b9, 0, none⟩))] (by kernel_rfl) fun a118 hs119 => ?_
  have hst120 := W.St.front [_] hstq113
  have hz122 := hf99_i0.lend hst120
  have hst123 := W.St.freeze hst120
  have hm124 := Mem.le_add m I99_i0
  generalize hq125 : Mem.add m I99_i0 = m121 at hz122 hst123 hm124
  obtain ⟨aq126_0, cq126_0, rq126_1, aq126_2, cq126_2, hAq126, hfq126_0, hfq126_1, hfq126_2, hfq126_3, hfq126_4, hfq126_5⟩ := hz122
  refine nd_op (op_call (some 66) hs119 (by kernel_rfl) (by kernel_rfl) ((f11_ok hst123 hAq126 hfq126_0 hfq126_1 hfq126_2 hfq126_3 hfq126_4 hfq126_5 hr).mono ?_))
  rintro _ w128 ⟨r127, hst131, rfl, hf127_0_0, hf127_1_0, hf127_2_0, hr⟩
  revert hr; intro hr
  refine ⟨_, rfl, fun a129 hs130 => ?_⟩
  have hst134 := W.St.thaw2 hst120 (by rw [hq125]; exact Mem.le.refl _) hst131
  refine nd_q (c := 0) 7 [1, 3, 4, 5, 6, 8, 9, 11, 12, 13, 14, 15, 16, 17, 18, 19] hs130 [(1, .pointer (some ⟨b9, 0, none⟩)), (3, .int .i64 r11.1), (4, .int .i64 r11.2.1), (5, .int .i64 r22.1), (6, .int .i64 r22.2.1), (8, .int .i64 r33.2.1), (9, .int .i64 r44.1), (11, .int .i64 r55.2.1), (12, .int .i64 r77.1), (13, .int .i64 r77.2.1), (14, .int .i64 r88.1), (15, .pointer (some ⟨b108, 0, none⟩)), (16, .int .i64 r99.2.1), (17, .int .i64 r127.1), (18, .int .i64 r127.2.1), (19, .int .i64 r127.2.2)] (by kernel_rfl) fun a135 hs136 => ?_
  refine nd_done ?_
  refine to_seq (sub [1, 1, 1, 1, 1, 1, 1, 1, 1, 1, 1, 1, 0] f9_c) (sub [1, 1, 1, 1, 1, 1, 1, 1, 1, 1, 1, 1, 1] f9_c) (by kernel_rfl) ?_
  refine to_nd 13 77 (rops (sub [1, 1, 1, 1, 1, 1, 1, 1, 1, 1, 1, 1, 0] f9_c)) (by kernel_rfl) (by kernel_rfl) ?_
  refine nd_q (c := 74) 3 [1, 4, 5, 6, 8, 9, 11, 12, 13, 14, 15, 16, 17, 18, 19, 72] hs136 [(1, .pointer (some ⟨b9, 0, none⟩)), (4, .int .i64 r11.2.1), (5, .int .i64 r22.1), (6, .int .i64 r22.2.1), (8, .int .i64 r33.2.1), (9, .int .i64 r44.1), (11, .int .i64 r55.2.1), (12, .int .i64 r77.1), (13, .int .i64 r77.2.1), (14, .int .i64 r88.1), (15, .pointer (some ⟨b108, 0, none⟩)), (16, .int .i64 r99.2.1), (17, .int .i64 r127.1), (18, .int .i64 r127.2.1), (19, .int .i64 r127.2.2), (72, .bool (r11.1 == (0 : Int)))] (by kernel_rfl) fun a137 hs138 => ?_
  by_cases hb139 : r11.1 = (0 : Int)
  rotate_left
  · rw [if_neg hb139] at hr
    rw [(eqF hb139)] at hs138
    refine nd_q (c := 0) 74 [0] hs138 [(0, .bool false)] (by kernel_rfl) fun a400 hs401 => ?_
    refine nd_done ?_
    have hst402 := W.St.drop [] hst134
    have hst403 := W.St.drop [] hst402
    have hst404 := W.St.drop [] hst403
    exact to_ret (v := .bool false) (by kernel_rfl) hbf Try.func9 hbk hs401 (by kernel_rfl) (hQ hr hm0 hst404 )
  rw [if_pos hb139] at hr
  rw [(eqT hb139)] at hs138
  refine nd_q (c := 70) 4 [1, 5, 6, 8, 9, 11, 12, 13, 14, 15, 16, 17, 18, 19, 76] hs138 [(1, .pointer (some ⟨b9, 0, none⟩)), (5, .int .i64 r22.1), (6, .int .i64 r22.2.1), (8, .int .i64 r33.2.1), (9, .int .i64 r44.1), (11, .int .i64 r55.2.1), (12, .int .i64 r77.1), (13, .int .i64 r77.2.1), (14, .int .i64 r88.1), (15, .pointer (some ⟨b108, 0, none⟩)), (16, .int .i64 r99.2.1), (17, .int .i64 r127.1), (18, .int .i64 r127.2.1), (19, .int .i64 r127.2.2), (76, .bool (r11.2.1 == (0 : Int)))] (by kernel_rfl) fun a140 hs141 => ?_
  by_cases hb142 : r11.2.1 = (0 : Int)
  rotate_left
  · rw [if_neg hb142] at hr
    rw [(eqF hb142)] at hs141
    refine nd_q (c := 0) 70 [0] hs141 [(0, .bool false)] (by kernel_rfl) fun a395 hs396 => ?_
    refine nd_done ?_
    have hst397 := W.St.drop [] hst134
    have hst398 := W.St.drop [] hst397
    have hst399 := W.St.drop [] hst398
    exact to_ret (v := .bool false) (by kernel_rfl) hbf Try.func9 hbk hs396 (by kernel_rfl) (hQ hr hm0 hst399 )
  rw [if_pos hb142] at hr
  rw [(eqT hb142)] at hs141
  refine nd_q (c := 66) 4 [1, 6, 8, 9, 11, 12, 13, 14, 15, 16, 17, 18, 19, 80] hs141 [(1, .pointer (some ⟨b9, 0, none⟩)), (6, .int .i64 r22.2.1), (8, .int .i64 r33.2.1), (9, .int .i64 r44.1), (11, .int .i64 r55.2.1), (12, .int .i64 r77.1), (13, .int .i64 r77.2.1), (14, .int .i64 r88.1), (15, .pointer (some ⟨b108, 0, none⟩)), (16, .int .i64 r99.2.1), (17, .int .i64 r127.1), (18, .int .i64 r127.2.1), (19, .int .i64 r127.2.2), (80, .bool (r22.1 == (1 : Int)))] (by kernel_rfl) fun a143 hs144 => ?_
  by_cases hb145 : r22.1 = (1 : Int)
  rotate_left
  · rw [if_neg hb145] at hr
    rw [(eqF hb145)] at hs144
    refine nd_q (c := 0) 66 [0] hs144 [(0, .bool false)] (by kernel_rfl) fun a390 hs391 => ?_
    refine nd_done ?_
    have hst392 := W.St.drop [] hst134
    have hst393 := W.St.drop [] hst392
    have hst394 := W.St.drop [] hst393
    exact to_ret (v := .bool false) (by kernel_rfl) hbf Try.func9 hbk hs391 (by kernel_rfl) (hQ hr hm0 hst394 )
  rw [if_pos hb145] at hr
  rw [(eqT hb145)] at hs144
  refine nd_q (c := 62) 4 [1, 8, 9, 11, 12, 13, 14, 15, 16, 17, 18, 19, 84] hs144 [(1, .pointer (some ⟨b9, 0, none⟩)), (8, .int .i64 r33.2.1), (9, .int .i64 r44.1), (11, .int .i64 r55.2.1), (12, .int .i64 r77.1), (13, .int .i64 r77.2.1), (14, .int .i64 r88.1), (15, .pointer (some ⟨b108, 0, none⟩)), (16, .int .i64 r99.2.1), (17, .int .i64 r127.1), (18, .int .i64 r127.2.1), (19, .int .i64 r127.2.2), (84, .bool (r22.2.1 == (0 : Int)))] (by kernel_rfl) fun a146 hs147 => ?_
  by_cases hb148 : r22.2.1 = (0 : Int)
  rotate_left
  · rw [if_neg hb148] at hr
    rw [(eqF hb148)] at hs147
    refine nd_q (c := 0) 62 [0] hs147 [(0, .bool false)] (by kernel_rfl) fun a385 hs386 => ?_
    refine nd_done ?_
    have hst387 := W.St.drop [] hst134
    have hst388 := W.St.drop [] hst387
    have hst389 := W.St.drop [] hst388
    exact to_ret (v := .bool false) (by kernel_rfl) hbf Try.func9 hbk hs386 (by kernel_rfl) (hQ hr hm0 hst389 )
  rw [if_pos hb148] at hr
  rw [(eqT hb148)] at hs147
  refine nd_q (c := 58) 4 [1, 9, 11, 12, 13, 14, 15, 16, 17, 18, 19, 88] hs147 [(1, .pointer (some ⟨b9, 0, none⟩)), (9, .int .i64 r44.1), (11, .int .i64 r55.2.1), (12, .int .i64 r77.1), (13, .int .i64 r77.2.1), (14, .int .i64 r88.1), (15, .pointer (some ⟨b108, 0, none⟩)), (16, .int .i64 r99.2.1), (17, .int .i64 r127.1), (18, .int .i64 r127.2.1), (19, .int .i64 r127.2.2), (88, .bool (r33.2.1 == (1 : Int)))] (by kernel_rfl) fun a149 hs150 => ?_
  by_cases hb151 : r33.2.1 = (1 : Int)
  rotate_left
  · rw [if_neg hb151] at hr
    rw [(eqF hb151)] at hs150
    refine nd_q (c := 0) 58 [0] hs150 [(0, .bool false)] (by kernel_rfl) fun a380 hs381 => ?_
    refine nd_done ?_
    have hst382 := W.St.drop [] hst134
    have hst383 := W.St.drop [] hst382
    have hst384 := W.St.drop [] hst383
    exact to_ret (v := .bool false) (by kernel_rfl) hbf Try.func9 hbk hs381 (by kernel_rfl) (hQ hr hm0 hst384 )
  rw [if_pos hb151] at hr
  rw [(eqT hb151)] at hs150
  refine nd_q (c := 54) 4 [1, 11, 12, 13, 14, 15, 16, 17, 18, 19, 92] hs150 [(1, .pointer (some ⟨b9, 0, none⟩)), (11, .int .i64 r55.2.1), (12, .int .i64 r77.1), (13, .int .i64 r77.2.1), (14, .int .i64 r88.1), (15, .pointer (some ⟨b108, 0, none⟩)), (16, .int .i64 r99.2.1), (17, .int .i64 r127.1), (18, .int .i64 r127.2.1), (19, .int .i64 r127.2.2), (92, .bool (r44.1 == (0 : Int)))] (by kernel_rfl) fun a152 hs153 => ?_
  by_cases hb154 : r44.1 = (0 : Int)
  rotate_left
  · rw [if_neg hb154] at hr
    rw [(eqF hb154)] at hs153
    refine nd_q (c := 0) 54 [0] hs153 [(0, .bool false)] (by kernel_rfl) fun a375 hs376 => ?_
    refine nd_done ?_
    have hst377 := W.St.drop [] hst134
    have hst378 := W.St.drop [] hst377
    have hst379 := W.St.drop [] hst378
    exact to_ret (v := .bool false) (by kernel_rfl) hbf Try.func9 hbk hs376 (by kernel_rfl) (hQ hr hm0 hst379 )
  rw [if_pos hb154] at hr
  rw [(eqT hb154)] at hs153
  refine nd_q (c := 50) 4 [1, 12, 13, 14, 15, 16, 17, 18, 19, 96] hs153 [(1, .pointer (some ⟨b9, 0, none⟩)), (12, .int .i64 r77.1), (13, .int .i64 r77.2.1), (14, .int .i64 r88.1), (15, .pointer (some ⟨b108, 0, none⟩)), (16, .int .i64 r99.2.1), (17, .int .i64 r127.1), (18, .int .i64 r127.2.1), (19, .int .i64 r127.2.2), (96, .bool (r55.2.1 == (7 : Int)))] (by kernel_rfl) fun a155 hs156 => ?_
  by_cases hb157 : r55.2.1 = (7 : Int)
  rotate_left
  · rw [if_neg hb157] at hr
    rw [(eqF hb157)] at hs156
    refine nd_q (c := 0) 50 [0] hs156 [(0, .bool false)] (by kernel_rfl) fun a370 hs371 => ?_
    refine nd_done ?_
    have hst372 := W.St.drop [] hst134
    have hst373 := W.St.drop [] hst372
    have hst374 := W.St.drop [] hst373
    exact to_ret (v := .bool false) (by kernel_rfl) hbf Try.func9 hbk hs371 (by kernel_rfl) (hQ hr hm0 hst374 )
  rw [if_pos hb157] at hr
  rw [(eqT hb157)] at hs156
  refine nd_q (c := 46) 4 [1, 13, 14, 15, 16, 17, 18, 19, 100] hs156 [(1, .pointer (some ⟨b9, 0, none⟩)), (13, .int .i64 r77.2.1), (14, .int .i64 r88.1), (15, .pointer (some ⟨b108, 0, none⟩)), (16, .int .i64 r99.2.1), (17, .int .i64 r127.1), (18, .int .i64 r127.2.1), (19, .int .i64 r127.2.2), (100, .bool (r77.1 == (2 : Int)))] (by kernel_rfl) fun a158 hs159 => ?_
  by_cases hb160 : r77.1 = (2 : Int)
  rotate_left
  · rw [if_neg hb160] at hr
    rw [(eqF hb160)] at hs159
    refine nd_q (c := 0) 46 [0] hs159 [(0, .bool false)] (by kernel_rfl) fun a365 hs366 => ?_
    refine nd_done ?_
    have hst367 := W.St.drop [] hst134
    have hst368 := W.St.drop [] hst367
    have hst369 := W.St.drop [] hst368
    exact to_ret (v := .bool false) (by kernel_rfl) hbf Try.func9 hbk hs366 (by kernel_rfl) (hQ hr hm0 hst369 )
  rw [if_pos hb160] at hr
  rw [(eqT hb160)] at hs159
  refine nd_q (c := 42) 4 [1, 14, 15, 16, 17, 18, 19, 104] hs159 [(1, .pointer (some ⟨b9, 0, none⟩)), (14, .int .i64 r88.1), (15, .pointer (some ⟨b108, 0, none⟩)), (16, .int .i64 r99.2.1), (17, .int .i64 r127.1), (18, .int .i64 r127.2.1), (19, .int .i64 r127.2.2), (104, .bool (r77.2.1 == (0 : Int)))] (by kernel_rfl) fun a161 hs162 => ?_
  by_cases hb163 : r77.2.1 = (0 : Int)
  rotate_left
  · rw [if_neg hb163] at hr
    rw [(eqF hb163)] at hs162
    refine nd_q (c := 0) 42 [0] hs162 [(0, .bool false)] (by kernel_rfl) fun a360 hs361 => ?_
    refine nd_done ?_
    have hst362 := W.St.drop [] hst134
    have hst363 := W.St.drop [] hst362
    have hst364 := W.St.drop [] hst363
    exact to_ret (v := .bool false) (by kernel_rfl) hbf Try.func9 hbk hs361 (by kernel_rfl) (hQ hr hm0 hst364 )
  rw [if_pos hb163] at hr
  rw [(eqT hb163)] at hs162
  refine nd_q (c := 38) 4 [1, 15, 16, 17, 18, 19, 108] hs162 [(1, .pointer (some ⟨b9, 0, none⟩)), (15, .pointer (some ⟨b108, 0, none⟩)), (16, .int .i64 r99.2.1), (17, .int .i64 r127.1), (18, .int .i64 r127.2.1), (19, .int .i64 r127.2.2), (108, .bool (r88.1 == (0 : Int)))] (by kernel_rfl) fun a164 hs165 => ?_
  by_cases hb166 : r88.1 = (0 : Int)
  rotate_left
  · rw [if_neg hb166] at hr
    rw [(eqF hb166)] at hs165
    refine nd_q (c := 0) 38 [0] hs165 [(0, .bool false)] (by kernel_rfl) fun a355 hs356 => ?_
    refine nd_done ?_
    have hst357 := W.St.drop [] hst134
    have hst358 := W.St.drop [] hst357
    have hst359 := W.St.drop [] hst358
    exact to_ret (v := .bool false) (by kernel_rfl) hbf Try.func9 hbk hs356 (by kernel_rfl) (hQ hr hm0 hst359 )
  rw [if_pos hb166] at hr
  rw [(eqT hb166)] at hs165
  refine nd_q (c := 34) 4 [1, 15, 17, 18, 19, 112] hs165 [(1, .pointer (some ⟨b9, 0, none⟩)), (15, .pointer (some ⟨b108, 0, none⟩)), (17, .int .i64 r127.1), (18, .int .i64 r127.2.1), (19, .int .i64 r127.2.2), (112, .bool (r99.2.1 == (0 : Int)))] (by kernel_rfl) fun a167 hs168 => ?_
  by_cases hb169 : r99.2.1 = (0 : Int)
  rotate_left
  · rw [if_neg hb169] at hr
    rw [(eqF hb169)] at hs168
    refine nd_q (c := 0) 34 [0] hs168 [(0, .bool false)] (by kernel_rfl) fun a350 hs351 => ?_
    refine nd_done ?_
    have hst352 := W.St.drop [] hst134
    have hst353 := W.St.drop [] hst352
    have hst354 := W.St.drop [] hst353
    exact to_ret (v := .bool false) (by kernel_rfl) hbf Try.func9 hbk hs351 (by kernel_rfl) (hQ hr hm0 hst354 )
  rw [if_pos hb169] at hr
  rw [(eqT hb169)] at hs168
  refine nd_v (i := 43) (c := 33) 113 (.agg #[.int .i64 r99.1.f0, .int .i64 r99.1.f1, .string r99.1.f2]) hs168 (by kernel_rfl) (ldN_run (P := Try.prog) (ad := ⟨b108, 0, none⟩) (l := [.int .i64 r99.1.f0, .int .i64 r99.1.f1, .string r99.1.f2]) 3 rfl (by kernel_rfl) (W.St.ocells [_] hst134)) fun a170 hs171 => ?_
  refine nd_q (c := 32) 1 [1, 17, 18, 19, 112, 113, 114] hs171 [(1, .pointer (some ⟨b9, 0, none⟩)), (17, .int .i64 r127.1), (18, .int .i64 r127.2.1), (19, .int .i64 r127.2.2), (112, .bool true), (113, .agg #[.int .i64 r99.1.f0, .int .i64 r99.1.f1, .string r99.1.f2]), (114, .agg #[.int .i64 (2 : Int), .int .i64 (0 : Int), .string (lit [121, 122])])] (by kernel_rfl) fun a172 hs173 => ?_
  refine nd_v (i := 45) (c := 31) 115 (.bool ((r99.1.f0 == (2 : Int)) && ((r99.1.f1 == (0 : Int)) && ((r99.1.f2.toList == (lit [121, 122]).toList) && true)))) hs173 (by kernel_rfl) (aeq_run (P := Try.prog) true ((r99.1.f0 == (2 : Int)) && ((r99.1.f1 == (0 : Int)) && ((r99.1.f2.toList == (lit [121, 122]).toList) && true))) (by kernel_rfl)) fun a176 hs177 => ?_
  refine nd_q (c := 29) 2 [1, 17, 18, 19, 117] hs177 [(1, .pointer (some ⟨b9, 0, none⟩)), (17, .int .i64 r127.1), (18, .int .i64 r127.2.1), (19, .int .i64 r127.2.2), (117, .bool ((r99.1.f0 == (2 : Int)) && ((r99.1.f1 == (0 : Int)) && ((r99.1.f2.toList == (lit [121, 122]).toList) && true))))] (by kernel_rfl) fun a178 hs179 => ?_
  by_cases hb180 : ((r99.1.f0 == (2 : Int)) && ((r99.1.f1 == (0 : Int)) && ((r99.1.f2.toList == (lit [121, 122]).toList) && true))) = true
  rotate_left
  · rw [if_neg hb180] at hr
    rw [(bF hb180)] at hs179
    refine nd_q (c := 0) 29 [0] hs179 [(0, .bool false)] (by kernel_rfl) fun a345 hs346 => ?_
    refine nd_done ?_
    have hst347 := W.St.drop [] hst134
    have hst348 := W.St.drop [] hst347
    have hst349 := W.St.drop [] hst348
    exact to_ret (v := .bool false) (by kernel_rfl) hbf Try.func9 hbk hs346 (by kernel_rfl) (hQ hr hm0 hst349 )
  rw [if_pos hb180] at hr
  rw [(bT hb180)] at hs179
  refine nd_q (c := 28) 1 [1, 17, 18, 19, 117, 118] hs179 [(1, .pointer (some ⟨b9, 0, none⟩)), (17, .int .i64 r127.1), (18, .int .i64 r127.2.1), (19, .int .i64 r127.2.2), (117, .bool true), (118, .pointer (some ⟨b9, 0, none⟩))] (by kernel_rfl) fun a181 hs182 => ?_
  have hz184 := hf99_i0.lend hst134
  have hst185 := W.St.freeze hst134
  have hm186 := Mem.le_add m I99_i0
  generalize hq187 : Mem.add m I99_i0 = m183 at hz184 hst185 hm186
  obtain ⟨aq188_0, cq188_0, rq188_1, aq188_2, cq188_2, hAq188, hfq188_0, hfq188_1, hfq188_2, hfq188_3, hfq188_4, hfq188_5⟩ := hz184
  refine nd_op (op_call (some 119) hs182 (by kernel_rfl) (by kernel_rfl) ((f12_ok hst185 hAq188 hfq188_0 hfq188_1 hfq188_2 hfq188_3 hfq188_4 hfq188_5 hr).mono ?_))
  rintro _ w190 ⟨r189, a189_0_0, c189_0_0, I189_0_0, hst193, rfl, hf189_0_0, hr⟩
  revert hr; intro hr
  refine ⟨_, rfl, fun a191 hs192 => ?_⟩
  have hst196 := W.St.thaw2 hst134 (by rw [hq187]; exact Mem.le.refl _) hst193
  have ho203 : OwnSl (kInt .i64) 8 3 m (some ⟨w190.heap.size, 0, none⟩) 2 [(w190.heap.size, .cells ([.int .i64 (0 : Int), .int .i64 (1 : Int)]).toArray 3 (0, 0))] [(0 : Int), (1 : Int)] := own_row (n := 2) (RepL.cons (l := [.int .i64 (0 : Int)]) rfl (kInt_mk (inr_of (by kernel_rfl))) (RepL.cons (l := [.int .i64 (1 : Int)]) rfl (kInt_mk (inr_of (by kernel_rfl))) RepL.nil)) rfl (Nat.le_of_ble_eq_true rfl) (Nat.le_of_ble_eq_true rfl)
  have hst199 := hst196.alloc (.cells [.int .i64 (0 : Int), .int .i64 (1 : Int)].toArray 3 (0, 0))
  refine nd_op (op_v (w' := w190.alloc (.cells [.int .i64 (0 : Int), .int .i64 (1 : Int)].toArray 3 (0, 0))) (some 120) (.slice (some ⟨w190.heap.size, 0, none⟩) 2 2) hs192 (by kernel_rfl) (by kernel_rfl) fun a200 hs201 => ?_)
  generalize w190.heap.size = b197 at hst199 hs201 ho203
  generalize w190.alloc (.cells [.int .i64 (0 : Int), .int .i64 (1 : Int)].toArray 3 (0, 0)) = w198 at hst199 ⊢
  have hst204 := W.St.front [_, _] hst199
  have hz206 := (OwnSl.flat flat_int hf189_0_0).lend hst204
  have hst207 := W.St.freeze hst204
  have hm208 := Mem.le_add m I189_0_0
  generalize hq209 : Mem.add m I189_0_0 = m205 at hz206 hst207 hm208
  have hz211 := (ho203.mono hm208).lend hst207
  have hst212 := W.St.freeze hst207
  have hm213 := Mem.le_add m205 ([(b197, .cells [.int .i64 (0 : Int), .int .i64 (1 : Int)].toArray 3 (0, 0))])
  generalize hq214 : Mem.add m205 ([(b197, .cells [.int .i64 (0 : Int), .int .i64 (1 : Int)].toArray 3 (0, 0))]) = m210 at hz211 hst212 hm213
  refine nd_op (op_call (some 121) hs201 (by kernel_rfl) (by kernel_rfl) ((f17_ok hst212 (hz206.mono hm213) hz211 hr).mono ?_))
  rintro _ w216 ⟨r215, hst219, rfl, hr⟩
  revert hr; intro hr
  refine ⟨_, rfl, fun a217 hs218 => ?_⟩
  have hst222 := W.St.thaw2 hst207 (by rw [hq214]; exact Mem.le.refl _) hst219
  have hst223 := W.St.thaw2 hst204 (by rw [hq209]; exact Mem.le.refl _) hst222
  refine nd_q (c := 23) 2 [1, 17, 18, 19, 123] hs218 [(1, .pointer (some ⟨b9, 0, none⟩)), (17, .int .i64 r127.1), (18, .int .i64 r127.2.1), (19, .int .i64 r127.2.2), (123, .bool r215)] (by kernel_rfl) fun a224 hs225 => ?_
  by_cases hb226 : r215 = true
  rotate_left
  · rw [if_neg hb226] at hr
    rw [(bF hb226)] at hs225
    refine nd_q (c := 0) 23 [0] hs225 [(0, .bool false)] (by kernel_rfl) fun a338 hs339 => ?_
    refine nd_done ?_
    have hst340 := W.St.drop [] hst223
    have hst341 := W.St.drop [] hst340
    have hst342 := W.St.drop [] hst341
    have hst343 := W.St.drop [] hst342
    have hst344 := W.St.drop [] hst343
    exact to_ret (v := .bool false) (by kernel_rfl) hbf Try.func9 hbk hs339 (by kernel_rfl) (hQ hr hm0 hst344 )
  rw [if_pos hb226] at hr
  rw [(bT hb226)] at hs225
  refine nd_q (c := 22) 1 [1, 17, 18, 19, 123, 124] hs225 [(1, .pointer (some ⟨b9, 0, none⟩)), (17, .int .i64 r127.1), (18, .int .i64 r127.2.1), (19, .int .i64 r127.2.2), (123, .bool true), (124, .pointer (some ⟨b9, 0, none⟩))] (by kernel_rfl) fun a227 hs228 => ?_
  have hst229 := W.St.front [_, _] hst223
  have hz231 := hf99_i0.lend hst229
  have hst232 := W.St.freeze hst229
  have hm233 := Mem.le_add m I99_i0
  generalize hq234 : Mem.add m I99_i0 = m230 at hz231 hst232 hm233
  obtain ⟨aq235_0, cq235_0, rq235_1, aq235_2, cq235_2, hAq235, hfq235_0, hfq235_1, hfq235_2, hfq235_3, hfq235_4, hfq235_5⟩ := hz231
  refine nd_op (op_call (some 125) hs228 (by kernel_rfl) (by kernel_rfl) ((f19_ok hst232 hAq235 hfq235_0 hfq235_1 hfq235_2 hfq235_3 hfq235_4 hfq235_5 hr).mono ?_))
  rintro _ w237 ⟨r236, a236_0_0, c236_0_0, I236_0_0, hst240, rfl, hf236_0_0, hr⟩
  revert hr; intro hr
  refine ⟨_, rfl, fun a238 hs239 => ?_⟩
  have hst243 := W.St.thaw2 hst229 (by rw [hq234]; exact Mem.le.refl _) hst240
  have ho250 : OwnSl (kInt .i64) 8 3 m (some ⟨w237.heap.size, 0, none⟩) 1 [(w237.heap.size, .cells ([.int .i64 (1 : Int)]).toArray 3 (0, 0))] [(1 : Int)] := own_row (n := 1) (RepL.cons (l := [.int .i64 (1 : Int)]) rfl (kInt_mk (inr_of (by kernel_rfl))) RepL.nil) rfl (Nat.le_of_ble_eq_true rfl) (Nat.le_of_ble_eq_true rfl)
  have hst246 := hst243.alloc (.cells [.int .i64 (1 : Int)].toArray 3 (0, 0))
  refine nd_op (op_v (w' := w237.alloc (.cells [.int .i64 (1 : Int)].toArray 3 (0, 0))) (some 126) (.slice (some ⟨w237.heap.size, 0, none⟩) 1 1) hs239 (by kernel_rfl) (by kernel_rfl) fun a247 hs248 => ?_)
  generalize w237.heap.size = b244 at hst246 hs248 ho250
  generalize w237.alloc (.cells [.int .i64 (1 : Int)].toArray 3 (0, 0)) = w245 at hst246 ⊢
  have hst251 := W.St.front [_, _] hst246
  have hz253 := (OwnSl.flat flat_int hf236_0_0).lend hst251
  have hst254 := W.St.freeze hst251
  have hm255 := Mem.le_add m I236_0_0
  generalize hq256 : Mem.add m I236_0_0 = m252 at hz253 hst254 hm255
  have hz258 := (ho250.mono hm255).lend hst254
  have hst259 := W.St.freeze hst254
  have hm260 := Mem.le_add m252 ([(b244, .cells [.int .i64 (1 : Int)].toArray 3 (0, 0))])
  generalize hq261 : Mem.add m252 ([(b244, .cells [.int .i64 (1 : Int)].toArray 3 (0, 0))]) = m257 at hz258 hst259 hm260
  refine nd_op (op_call (some 127) hs248 (by kernel_rfl) (by kernel_rfl) ((f17_ok hst259 (hz253.mono hm260) hz258 hr).mono ?_))
  rintro _ w263 ⟨r262, hst266, rfl, hr⟩
  revert hr; intro hr
  refine ⟨_, rfl, fun a264 hs265 => ?_⟩
  have hst269 := W.St.thaw2 hst254 (by rw [hq261]; exact Mem.le.refl _) hst266
  have hst270 := W.St.thaw2 hst251 (by rw [hq256]; exact Mem.le.refl _) hst269
  refine nd_q (c := 17) 2 [1, 17, 18, 19, 129] hs265 [(1, .pointer (some ⟨b9, 0, none⟩)), (17, .int .i64 r127.1), (18, .int .i64 r127.2.1), (19, .int .i64 r127.2.2), (129, .bool r262)] (by kernel_rfl) fun a271 hs272 => ?_
  by_cases hb273 : r262 = true
  rotate_left
  · rw [if_neg hb273] at hr
    rw [(bF hb273)] at hs272
    refine nd_q (c := 0) 17 [0] hs272 [(0, .bool false)] (by kernel_rfl) fun a329 hs330 => ?_
    refine nd_done ?_
    have hst331 := W.St.drop [] hst270
    have hst332 := W.St.drop [] hst331
    have hst333 := W.St.drop [] hst332
    have hst334 := W.St.drop [] hst333
    have hst335 := W.St.drop [] hst334
    have hst336 := W.St.drop [] hst335
    have hst337 := W.St.drop [] hst336
    exact to_ret (v := .bool false) (by kernel_rfl) hbf Try.func9 hbk hs330 (by kernel_rfl) (hQ hr hm0 hst337 )
  rw [if_pos hb273] at hr
  rw [(bT hb273)] at hs272
  refine nd_q (c := 13) 4 [1, 18, 19, 133] hs272 [(1, .pointer (some ⟨b9, 0, none⟩)), (18, .int .i64 r127.2.1), (19, .int .i64 r127.2.2), (133, .bool (r127.1 == (3 : Int)))] (by kernel_rfl) fun a274 hs275 => ?_
  by_cases hb276 : r127.1 = (3 : Int)
  rotate_left
  · rw [if_neg hb276] at hr
    rw [(eqF hb276)] at hs275
    refine nd_q (c := 0) 13 [0] hs275 [(0, .bool false)] (by kernel_rfl) fun a320 hs321 => ?_
    refine nd_done ?_
    have hst322 := W.St.drop [] hst270
    have hst323 := W.St.drop [] hst322
    have hst324 := W.St.drop [] hst323
    have hst325 := W.St.drop [] hst324
    have hst326 := W.St.drop [] hst325
    have hst327 := W.St.drop [] hst326
    have hst328 := W.St.drop [] hst327
    exact to_ret (v := .bool false) (by kernel_rfl) hbf Try.func9 hbk hs321 (by kernel_rfl) (hQ hr hm0 hst328 )
  rw [if_pos hb276] at hr
  rw [(eqT hb276)] at hs275
  refine nd_q (c := 9) 4 [1, 19, 137] hs275 [(1, .pointer (some ⟨b9, 0, none⟩)), (19, .int .i64 r127.2.2), (137, .bool (r127.2.1 == (1 : Int)))] (by kernel_rfl) fun a277 hs278 => ?_
  by_cases hb279 : r127.2.1 = (1 : Int)
  rotate_left
  · rw [if_neg hb279] at hr
    rw [(eqF hb279)] at hs278
    refine nd_q (c := 0) 9 [0] hs278 [(0, .bool false)] (by kernel_rfl) fun a311 hs312 => ?_
    refine nd_done ?_
    have hst313 := W.St.drop [] hst270
    have hst314 := W.St.drop [] hst313
    have hst315 := W.St.drop [] hst314
    have hst316 := W.St.drop [] hst315
    have hst317 := W.St.drop [] hst316
    have hst318 := W.St.drop [] hst317
    have hst319 := W.St.drop [] hst318
    exact to_ret (v := .bool false) (by kernel_rfl) hbf Try.func9 hbk hs312 (by kernel_rfl) (hQ hr hm0 hst319 )
  rw [if_pos hb279] at hr
  rw [(eqT hb279)] at hs278
  refine nd_q (c := 5) 4 [1, 141] hs278 [(1, .pointer (some ⟨b9, 0, none⟩)), (141, .bool (r127.2.2 == (0 : Int)))] (by kernel_rfl) fun a280 hs281 => ?_
  by_cases hb282 : r127.2.2 = (0 : Int)
  rotate_left
  · rw [if_neg hb282] at hr
    rw [(eqF hb282)] at hs281
    refine nd_q (c := 0) 5 [0] hs281 [(0, .bool false)] (by kernel_rfl) fun a302 hs303 => ?_
    refine nd_done ?_
    have hst304 := W.St.drop [] hst270
    have hst305 := W.St.drop [] hst304
    have hst306 := W.St.drop [] hst305
    have hst307 := W.St.drop [] hst306
    have hst308 := W.St.drop [] hst307
    have hst309 := W.St.drop [] hst308
    have hst310 := W.St.drop [] hst309
    exact to_ret (v := .bool false) (by kernel_rfl) hbf Try.func9 hbk hs303 (by kernel_rfl) (hQ hr hm0 hst310 )
  rw [if_pos hb282] at hr
  rw [(eqT hb282)] at hs281
  refine nd_q (c := 4) 1 [141, 142] hs281 [(141, .bool true), (142, .pointer (some ⟨b9, 0, none⟩))] (by kernel_rfl) fun a283 hs284 => ?_
  have hst285 := W.St.front [_, _] hst270
  refine nd_op (op_call (some 143) hs284 (by kernel_rfl) (by kernel_rfl) ((f26_ok hst285 hf99_i0 (inr_of (by kernel_rfl)) hr).mono ?_))
  rintro _ w287 ⟨r286, I286_i0, hst290, rfl, hf286_0_0, hf286_i0, hr⟩
  revert hr; intro hr
  refine ⟨_, rfl, fun a288 hs289 => ?_⟩
  refine nd_q (c := 0) 3 [0] hs289 [(0, .bool (r286.1 == (0 : Int)))] (by kernel_rfl) fun a293 hs294 => ?_
  refine nd_done ?_
  have hst295 := W.St.drop [] hst290
  have hst296 := W.St.drop [] hst295
  have hst297 := W.St.drop [] hst296
  have hst298 := W.St.drop [] hst297
  have hst299 := W.St.drop [] hst298
  have hst300 := W.St.drop [] hst299
  have hst301 := W.St.drop [] hst300
  exact to_ret (v := .bool (r286.1 == (0 : Int))) (by kernel_rfl) hbf Try.func9 hbk hs294 (by kernel_rfl) (hQ hr hm0 hst301 )
def f9   : M Bool := fun Q => f10 (2 : Int) fun r3 => if r3.2 = (0 : Int) then (onPtr r3.1 (f9_j1 Q (none : Option S62) true) (fun y21 => f9_j1 Q (some y21) false)) else (f9_j1 Q r3.1 true)
theorem f9_ok  {z : Base} {w : World} {m : Mem} {G : List Grp}  {Q : Bool → Prop} (hst : W.St z w m (G))  (hr : f9   Q) : Calls Try.prog 9 #[] w (f9_post z m G  Q) := by
  refine calls_begin (c := f9_c) (n := 146) [] Try.func9 (by kernel_rfl) Try.ntmps9 (Nat.le_of_ble_eq_true rfl) fun b cs a0 hbf hbk hs0 => ?_
  have hm0 := Mem.le.refl m
  have hQ : ∀ {r : Bool}, Q r → f9_YR z m G (f9_post z m G  Q)  r := by intro r hq m' w'  hm' hst' ; exact ⟨r,  W.St.less hm' hst', rfl, hq⟩
  unfold f9 at hr
  refine to_seq (sub [0] f9_c) (sub [1] f9_c) (by kernel_rfl) ?_
  refine to_nd 0 1 (rops (sub [0] f9_c)) (by kernel_rfl) (by kernel_rfl) ?_
  refine nd_q (c := 0) 1 [] hs0 [] (by kernel_rfl) fun a1 hs2 => ?_
  refine nd_done ?_
  refine to_seq (sub [1, 0] f9_c) (sub [1, 1] f9_c) (by kernel_rfl) ?_
  refine to_nd 1 6 (rops (sub [1, 0] f9_c)) (by kernel_rfl) (by kernel_rfl) ?_
  refine nd_op (op_call (some 21) hs2 (by kernel_rfl) (by kernel_rfl) ((f10_ok hst (inr_of (by kernel_rfl)) hr).mono ?_))
  rintro _ w4 ⟨r3, p3_0_0, I3_0_0, hst7, rfl, hf3_0_0, hf3_1_0, hr⟩
  revert hr; intro hr
  refine ⟨_, rfl, fun a5 hs6 => ?_⟩
  refine nd_q (c := 0) 5 [1, 2] hs6 [(1, .pointer p3_0_0), (2, .int .i64 r3.2)] (by kernel_rfl) fun a10 hs11 => ?_
  refine nd_done ?_
  refine to_seq (sub [1, 1, 0] f9_c) (sub [1, 1, 1] f9_c) (by kernel_rfl) ?_
  refine to_seq (sub [1, 1, 0, 0] f9_c) (sub [1, 1, 0, 1] f9_c) (by kernel_rfl) ?_
  refine to_nd 2 6 (rops (sub [1, 1, 0, 0] f9_c)) (by kernel_rfl) (by kernel_rfl) ?_
  refine nd_q (c := 3) 3 [1, 26] hs11 [(1, .pointer p3_0_0), (26, .bool (r3.2 != (0 : Int)))] (by kernel_rfl) fun a12 hs13 => ?_
  by_cases hb14 : r3.2 = (0 : Int)
  rotate_left
  · rw [if_neg hb14] at hr
    rw [(neT hb14)] at hs13
    refine nd_q (c := 0) 3 [1, 29] hs13 [(1, .pointer p3_0_0), (29, .bool true)] (by kernel_rfl) fun a33 hs34 => ?_
    refine nd_done ?_
    have hs35 := hs34.kept [1, 29] [(1, .pointer p3_0_0), (29, .bool true)] (by kernel_rfl)
    exact f9_j1_ok hbf hbk   hQ hr (Mem.le.refl _) hst7 hs35 hf3_0_0
  rw [if_pos hb14] at hr
  rw [(neF hb14)] at hs13
  refine nd_q (c := 2) 1 [1, 26, 27] hs13 [(1, .pointer p3_0_0), (26, .bool false), (27, .pointer p3_0_0)] (by kernel_rfl) fun a15 hs16 => ?_
  refine nd_v (i := 4) (c := 1) 28 (.bool (isNil p3_0_0)) hs16 (by kernel_rfl) (nlq_run (P := Try.prog) true (by kernel_rfl)) fun a19 hs20 => ?_
  obtain ⟨hx22, rfl, rfl⟩ | ⟨b28, y21, hx22, rfl, ho29⟩ := hf3_0_0
  rotate_left
  · replace hr := onPtr_some hx22 hr
    simp only [isNil] at hs20
    refine nd_q (c := 0) 1 [1, 29] hs20 [(1, .pointer (some ⟨b28, 0, none⟩)), (29, .bool false)] (by kernel_rfl) fun a30 hs31 => ?_
    refine nd_done ?_
    have hs32 := hs31.kept [1, 29] [(1, .pointer (some ⟨b28, 0, none⟩)), (29, .bool false)] (by kernel_rfl)
    exact f9_j1_ok hbf hbk   hQ hr (Mem.le.refl _) hst7 hs32 (ho29.nn)
  replace hr := onPtr_none hx22 hr
  rw [show isNil none = true from rfl] at hs20
  have hst23 := (W.St.front [] hst7).unnil
  refine nd_q (c := 0) 1 [1, 29] hs20 [(1, .pointer none), (29, .bool true)] (by kernel_rfl) fun a24 hs25 => ?_
  refine nd_done ?_
  have hst26 := hst23.nil
  have hs27 := hs25.kept [1, 29] [(1, .pointer none), (29, .bool true)] (by kernel_rfl)
  exact f9_j1_ok hbf hbk   hQ hr (Mem.le.refl _) hst26 hs27 OwnN62.nil
/-! ### 13: salchow/salchowref50.Small -/
noncomputable def f13_c : Code := codeOf Try.f13
def f13_post (z : Base) (m : Mem) (G : List Grp)  (Q : Bool → Prop) : Ending → World → Prop := fun e w' => ∃ (r : Bool) , W.St z w' m (G) ∧ e = .returned (.bool r) ∧ Q r
def f13_YR (z : Base) (m0 : Mem) (G : List Grp) (R : Ending → World → Prop)  (r : Bool) : Prop := ∀ {m : Mem} {w : World} , m0.le m → W.St z w m (G) →  R (.returned (.bool r)) w
theorem f13_YR_mono {z : Base} {m0 m1 : Mem} {G : List Grp} {R : Ending → World → Prop}  {r : Bool} (hm : m0.le m1) (h : f13_YR z m0 G R  r) : f13_YR z m1 G R  r := by
  intro m w  hm'
  exact h (hm.trans hm')
def f13_l1_Y (z : Base) (m0 : Mem) (G : List Grp) (b : Frame) (cs : List Frame) (R : Ending → World → Prop) (a_list'0 : Option Addr) (c_list'0 : Nat) (list'0 : (List S40)) (i'5 : Int) : Prop := ∀ {m : Mem} {w : World} {a : Act} , m0.le m → W.St z w m (G) → Has 39 a [(0, .slice a_list'0 list'0.length c_list'0), (5, .int .i64 i'5)] → (InR .i64 i'5) → Reach Try.prog b cs R [.code (sub [1, 1, 0, 1, 0, 0] f13_c), .inLoop (sub [1, 1, 0, 1, 0, 0] f13_c), .inBlock 0, .code (sub [1, 1, 1] f13_c)] a w
def f13_j2_Y (z : Base) (m0 : Mem) (G : List Grp) (b : Frame) (cs : List Frame) (R : Ending → World → Prop) (a_list'0 : Option Addr) (c_list'0 : Nat) (list'0 : (List S40)) (i'5 : Int) (t'38 : Bool) : Prop := ∀ {m : Mem} {w : World} {a : Act} , m0.le m → W.St z w m (G) → Has 39 a [(0, .slice a_list'0 list'0.length c_list'0), (5, .int .i64 i'5), (38, .bool t'38)] → (InR .i64 i'5) → Reach Try.prog b cs R [.code (sub [1, 1, 0, 1, 0, 0, 1, 0, 0, 1] f13_c), .inBlock 1, .code (sub [1, 1, 0, 1, 0, 0, 1, 1] f13_c), .inLoop (sub [1, 1, 0, 1, 0, 0] f13_c), .inBlock 0, .code (sub [1, 1, 1] f13_c)] a w
def f13_j2 (list'0 : (List S40)) (Q : Bool → Prop) (X : Int → Prop) (i'5 : Int) (t'38 : Bool) : Prop := if t'38 = true then (Q false) else (X (w64 (i'5 + (1 : Int))))
theorem f13_j2_ok {z : Base} {m0 : Mem} {G : List Grp} {b : Frame} {cs : List Frame} {R : Ending → World → Prop} {a_list'0 : Option Addr} {c_list'0 : Nat} {list'0 : (List S40)} {Q : Bool → Prop} {X : Int → Prop} (hbf : b.fn = 13) (hbk : b.kind = .normal) (h_list'0 : Sl k40 48 m0 a_list'0 c_list'0 list'0)  (hQ : ∀ {r : Bool}, Q r → f13_YR z m0 G R  r) (hX : ∀ {i'5 : Int}, X i'5 → f13_l1_Y z m0 G b cs R a_list'0 c_list'0 list'0 i'5) : ∀ {i'5 : Int} {t'38 : Bool}, f13_j2 list'0 Q X i'5 t'38 → f13_j2_Y z m0 G b cs R a_list'0 c_list'0 list'0 i'5 t'38 := by
  intro i'5 t'38 hr m w a0  hm0 hst hs0 h_i'5
  unfold f13_j2 at hr
  by_cases hb1 : t'38 = true
  · rw [if_pos hb1] at hr
    rw [(bT hb1)] at hs0
    refine to_then (.tmp 38) (sub [1, 1, 0, 1, 0, 0, 1, 0, 0, 1, 0] f13_c) (sub [1, 1, 0, 1, 0, 0, 1, 0, 0, 1, 1] f13_c) (by kernel_rfl) hs0 (by kernel_rfl) ?_
    refine to_seq (sub [1, 1, 0, 1, 0, 0, 1, 0, 0, 1, 0, 0] f13_c) (sub [1, 1, 0, 1, 0, 0, 1, 0, 0, 1, 0, 1] f13_c) (by kernel_rfl) ?_
    refine to_nd 7 1 (rops (sub [1, 1, 0, 1, 0, 0, 1, 0, 0, 1, 0, 0] f13_c)) (by kernel_rfl) (by kernel_rfl) ?_
    refine nd_q (c := 0) 1 [4] hs0 [(4, .bool false)] (by kernel_rfl) fun a2 hs3 => ?_
    refine nd_done ?_
    exact to_ret (v := .bool false) (by kernel_rfl) hbf Try.func13 hbk hs3 (by kernel_rfl) (hQ hr hm0 hst )
  rw [if_neg hb1] at hr
  rw [(bF hb1)] at hs0
  refine to_else (.tmp 38) (sub [1, 1, 0, 1, 0, 0, 1, 0, 0, 1, 0] f13_c) (sub [1, 1, 0, 1, 0, 0, 1, 0, 0, 1, 1] f13_c) (by kernel_rfl) hs0 (by kernel_rfl) ?_
  refine to_skip (by kernel_rfl) ?_
  refine reach_inBlock ?_
  refine to_nd 5 3 (rops (sub [1, 1, 0, 1, 0, 0, 1, 1] f13_c)) (by kernel_rfl) (by kernel_rfl) ?_
  refine nd_q (c := 0) 3 [0, 5] hs0 [(0, .slice a_list'0 list'0.length c_list'0), (5, .int .i64 (w64 (i'5 + (1 : Int))))] (by kernel_rfl) fun a4 hs5 => ?_
  refine nd_done ?_
  refine reach_inLoop ?_
  have hs6 := hs5.kept [0, 5] [(0, .slice a_list'0 list'0.length c_list'0), (5, .int .i64 (w64 (i'5 + (1 : Int))))] (by kernel_rfl)
  exact hX hr hm0 hst hs6 (wrap_in .i64 _)
def f13_l1_Yk1 (z : Base) (m0 : Mem) (G : List Grp) (b : Frame) (cs : List Frame) (R : Ending → World → Prop) (a_list'0 : Option Addr) (c_list'0 : Nat) (list'0 : (List S40))  : Prop := ∀ {m : Mem} {w : World} {a : Act} , m0.le m → W.St z w m (G) → Has 39 a [] →  Reach Try.prog b cs R [.code (sub [1, 1, 1] f13_c)] a w
def f13_l1_b (list'0 : (List S40)) (k1 : Prop) (Q : Bool → Prop) (X : Int → Prop) (i'5 : Int) : Prop := if i'5 < (list'0.length : Int) then (ofO (ix list'0 i'5) fun x6 => if (x6.f3.size : Int) > (100 : Int) then (f13_j2 list'0 Q X i'5 true) else (ofO (ix list'0 i'5) fun x21 => if x21.f0 < (0 : Int) then (f13_j2 list'0 Q X i'5 true) else (ofO (ix list'0 i'5) fun x36 => f13_j2 list'0 Q X i'5 (decide (x36.f0 > (5 : Int)))))) else (k1)
def f13_l1 (list'0 : (List S40)) (k1 : Prop) (Q : Bool → Prop) (i'5 : Int) : Prop := ∀ X : Int → Prop, (∀ {i'5 : Int}, f13_l1_b list'0 k1 Q X i'5 → X i'5) → X i'5
theorem f13_l1_ok {z : Base} {m0 : Mem} {G : List Grp} {b : Frame} {cs : List Frame} {R : Ending → World → Prop} {a_list'0 : Option Addr} {c_list'0 : Nat} {list'0 : (List S40)} {k1 : Prop} {Q : Bool → Prop}  (hbf : b.fn = 13) (hbk : b.kind = .normal) (h_list'0 : Sl k40 48 m0 a_list'0 c_list'0 list'0)  (hk1 : ∀ (_u : Unit), k1  → f13_l1_Yk1 z m0 G b cs R a_list'0 c_list'0 list'0 ) (hQ : ∀ {r : Bool}, Q r → f13_YR z m0 G R  r) : ∀ {i'5 : Int}, f13_l1 list'0 k1 Q i'5 → f13_l1_Y z m0 G b cs R a_list'0 c_list'0 list'0 i'5 := by
  intro i'5 hr
  refine hr (f13_l1_Y z m0 G b cs R a_list'0 c_list'0 list'0) ?_
  intro i'5 hr m w a0  hm0 hst hs0 h_i'5
  have hX : ∀ {i'5 : Int}, f13_l1_Y z m0 G b cs R a_list'0 c_list'0 list'0 i'5 → f13_l1_Y z m0 G b cs R a_list'0 c_list'0 list'0 i'5 := fun h => h
  unfold f13_l1_b at hr
  refine to_seq (sub [1, 1, 0, 1, 0, 0, 0] f13_c) (sub [1, 1, 0, 1, 0, 0, 1] f13_c) (by kernel_rfl) ?_
  refine to_seq (sub [1, 1, 0, 1, 0, 0, 0, 0] f13_c) (sub [1, 1, 0, 1, 0, 0, 0, 1] f13_c) (by kernel_rfl) ?_
  refine to_nd 4 4 (rops (sub [1, 1, 0, 1, 0, 0, 0, 0] f13_c)) (by kernel_rfl) (by kernel_rfl) ?_
  refine nd_q (c := 0) 4 [0, 5, 13] hs0 [(0, .slice a_list'0 list'0.length c_list'0), (5, .int .i64 i'5), (13, .bool (decide (i'5 < (list'0.length : Int))))] (by kernel_rfl) fun a1 hs2 => ?_
  refine nd_done ?_
  by_cases hb3 : i'5 < (list'0.length : Int)
  rotate_left
  · rw [if_neg hb3] at hr
    rw [(decide_eq_false hb3)] at hs2
    refine to_else (.tmp 13) (sub [1, 1, 0, 1, 0, 0, 0, 1, 0] f13_c) (sub [1, 1, 0, 1, 0, 0, 0, 1, 1] f13_c) (by kernel_rfl) hs2 (by kernel_rfl) ?_
    refine to_exit 0 (by kernel_rfl) [.code (sub [1, 1, 1] f13_c)] rfl ?_
    have hs46 := hs2.kept [] [] (by kernel_rfl)
    exact hk1 () hr hm0 hst hs46 
  rw [if_pos hb3] at hr
  rw [(decide_eq_true hb3)] at hs2
  refine to_then (.tmp 13) (sub [1, 1, 0, 1, 0, 0, 0, 1, 0] f13_c) (sub [1, 1, 0, 1, 0, 0, 0, 1, 1] f13_c) (by kernel_rfl) hs2 (by kernel_rfl) ?_
  refine to_skip (by kernel_rfl) ?_
  refine to_seq (sub [1, 1, 0, 1, 0, 0, 1, 0] f13_c) (sub [1, 1, 0, 1, 0, 0, 1, 1] f13_c) (by kernel_rfl) ?_
  refine to_block 1 (sub [1, 1, 0, 1, 0, 0, 1, 0, 0] f13_c) (by kernel_rfl) ?_
  refine to_seq (sub [1, 1, 0, 1, 0, 0, 1, 0, 0, 0] f13_c) (sub [1, 1, 0, 1, 0, 0, 1, 0, 0, 1] f13_c) (by kernel_rfl) ?_
  refine to_nd 6 23 (rops (sub [1, 1, 0, 1, 0, 0, 1, 0, 0, 0] f13_c)) (by kernel_rfl) (by kernel_rfl) ?_
  refine nd_q (c := 21) 2 [0, 5, 16, 17] hs2 [(0, .slice a_list'0 list'0.length c_list'0), (5, .int .i64 i'5), (16, .slice a_list'0 list'0.length c_list'0), (17, .int .i64 i'5)] (by kernel_rfl) fun a4 hs5 => ?_
  obtain ⟨x6, hx6, hr⟩ := ofO_el hr
  obtain ⟨ad6, c6, hA6, hR6, hX6⟩ := Row.ix (h_list'0.mono hm0).1 hx6
  obtain ⟨he6, hf6_0, hf6_1, hf6_2, hf6_3, hf6_4⟩ := k40_open hR6
  have hB6 := hA6.conv he6
  refine nd_v (i := 2) (c := 20) 18 (.pointer (some ad6)) hs5 (by kernel_rfl) (hX6 (P := Try.prog) (w := w) (by kernel_rfl)) fun a7 hs8 => ?_
  refine nd_q (c := 19) 1 [0, 5, 19] hs8 [(0, .slice a_list'0 list'0.length c_list'0), (5, .int .i64 i'5), (19, .pointer (some ⟨ad6.block, ad6.off + 3, none⟩))] (by kernel_rfl) fun a9 hs10 => ?_
  refine nd_v (i := 4) (c := 18) 20 (.string x6.f3) hs10 (by kernel_rfl) (ld1_run (P := Try.prog) (ad := ⟨ad6.block, ad6.off + 3, none⟩) (by kernel_rfl) (hB6.cell hst (j := 3) (Nat.le_of_ble_eq_true rfl))) fun a11 hs12 => ?_
  refine nd_q (c := 15) 3 [0, 5, 23] hs12 [(0, .slice a_list'0 list'0.length c_list'0), (5, .int .i64 i'5), (23, .bool (decide ((x6.f3.size : Int) > (100 : Int))))] (by kernel_rfl) fun a13 hs14 => ?_
  by_cases hb15 : (x6.f3.size : Int) > (100 : Int)
  · rw [if_pos hb15] at hr
    rw [(decide_eq_true hb15)] at hs14
    refine nd_q (c := 0) 15 [0, 5, 38] hs14 [(0, .slice a_list'0 list'0.length c_list'0), (5, .int .i64 i'5), (38, .bool true)] (by kernel_rfl) fun a16 hs17 => ?_
    refine nd_done ?_
    have hs18 := hs17.kept [0, 5, 38] [(0, .slice a_list'0 list'0.length c_list'0), (5, .int .i64 i'5), (38, .bool true)] (by kernel_rfl)
    exact f13_j2_ok hbf hbk h_list'0  hQ hX hr hm0 hst hs18 h_i'5
  rw [if_neg hb15] at hr
  rw [(decide_eq_false hb15)] at hs14
  refine nd_q (c := 13) 2 [0, 5, 23, 24, 25] hs14 [(0, .slice a_list'0 list'0.length c_list'0), (5, .int .i64 i'5), (23, .bool false), (24, .slice a_list'0 list'0.length c_list'0), (25, .int .i64 i'5)] (by kernel_rfl) fun a19 hs20 => ?_
  obtain ⟨x21, hx21, hr⟩ := ofO_el hr
  obtain ⟨ad21, c21, hA21, hR21, hX21⟩ := Row.ix (h_list'0.mono hm0).1 hx21
  obtain ⟨he21, hf21_0, hf21_1, hf21_2, hf21_3, hf21_4⟩ := k40_open hR21
  have hB21 := hA21.conv he21
  refine nd_v (i := 10) (c := 12) 26 (.pointer (some ad21)) hs20 (by kernel_rfl) (hX21 (P := Try.prog) (w := w) (by kernel_rfl)) fun a22 hs23 => ?_
  refine nd_q (c := 11) 1 [0, 5, 23, 27] hs23 [(0, .slice a_list'0 list'0.length c_list'0), (5, .int .i64 i'5), (23, .bool false), (27, .pointer (some ad21))] (by kernel_rfl) fun a24 hs25 => ?_
  refine nd_v (i := 12) (c := 10) 28 (.int .i64 x21.f0) hs25 (by kernel_rfl) (ld1_run (P := Try.prog) (ad := ad21) (by kernel_rfl) (hB21.cell0 hst (Nat.le_of_ble_eq_true rfl))) fun a26 hs27 => ?_
  refine nd_q (c := 7) 3 [0, 5, 31] hs27 [(0, .slice a_list'0 list'0.length c_list'0), (5, .int .i64 i'5), (31, .bool (decide (x21.f0 < (0 : Int))))] (by kernel_rfl) fun a28 hs29 => ?_
  by_cases hb30 : x21.f0 < (0 : Int)
  · rw [if_pos hb30] at hr
    rw [(decide_eq_true hb30)] at hs29
    refine nd_q (c := 0) 7 [0, 5, 38] hs29 [(0, .slice a_list'0 list'0.length c_list'0), (5, .int .i64 i'5), (38, .bool true)] (by kernel_rfl) fun a31 hs32 => ?_
    refine nd_done ?_
    have hs33 := hs32.kept [0, 5, 38] [(0, .slice a_list'0 list'0.length c_list'0), (5, .int .i64 i'5), (38, .bool true)] (by kernel_rfl)
    exact f13_j2_ok hbf hbk h_list'0  hQ hX hr hm0 hst hs33 h_i'5
  rw [if_neg hb30] at hr
  rw [(decide_eq_false hb30)] at hs29
  refine nd_q (c := 5) 2 [0, 5, 31, 32, 33] hs29 [(0, .slice a_list'0 list'0.length c_list'0), (5, .int .i64 i'5), (31, .bool false), (32, .slice a_list'0 list'0.length c_list'0), (33, .int .i64 i'5)] (by kernel_rfl) fun a34 hs35 => ?_
  obtain ⟨x36, hx36, hr⟩ := ofO_el hr
  obtain ⟨ad36, c36, hA36, hR36, hX36⟩ := Row.ix (h_list'0.mono hm0).1 hx36
  obtain ⟨he36, hf36_0, hf36_1, hf36_2, hf36_3, hf36_4⟩ := k40_open hR36
  have hB36 := hA36.conv he36
  refine nd_v (i := 18) (c := 4) 34 (.pointer (some ad36)) hs35 (by kernel_rfl) (hX36 (P := Try.prog) (w := w) (by kernel_rfl)) fun a37 hs38 => ?_
  refine nd_q (c := 3) 1 [0, 5, 31, 35] hs38 [(0, .slice a_list'0 list'0.length c_list'0), (5, .int .i64 i'5), (31, .bool false), (35, .pointer (some ad36))] (by kernel_rfl) fun a39 hs40 => ?_
  refine nd_v (i := 20) (c := 2) 36 (.int .i64 x36.f0) hs40 (by kernel_rfl) (ld1_run (P := Try.prog) (ad := ad36) (by kernel_rfl) (hB36.cell0 hst (Nat.le_of_ble_eq_true rfl))) fun a41 hs42 => ?_
  refine nd_q (c := 0) 2 [0, 5, 38] hs42 [(0, .slice a_list'0 list'0.length c_list'0), (5, .int .i64 i'5), (38, .bool (decide (x36.f0 > (5 : Int))))] (by kernel_rfl) fun a43 hs44 => ?_
  refine nd_done ?_
  have hs45 := hs44.kept [0, 5, 38] [(0, .slice a_list'0 list'0.length c_list'0), (5, .int .i64 i'5), (38, .bool (decide (x36.f0 > (5 : Int))))] (by kernel_rfl)
  exact f13_j2_ok hbf hbk h_list'0  hQ hX hr hm0 hst hs45 h_i'5
def f13  (x0 : (List S40)) (x1 : Int) : M Bool := fun Q => if (x0.length : Int) > x1 then (Q false) else (f13_l1 x0 (Q true) Q (0 : Int))
theorem f13_ok  {z : Base} {w : World} {m : Mem} {G : List Grp} {a_x0 : Option Addr} {c_x0 : Nat} {x0 : (List S40)} {x1 : Int} {Q : Bool → Prop} (hst : W.St z w m (G)) (h_x0 : Sl k40 48 m a_x0 c_x0 x0) (h_x1 : InR .i64 x1) (hr : f13  x0 x1 Q) : Calls Try.prog 13 #[.slice a_x0 x0.length c_x0, .int .i64 x1] w (f13_post z m G  Q) := by
  refine calls_begin (c := f13_c) (n := 39) [.slice a_x0 x0.length c_x0, .int .i64 x1] Try.func13 (by kernel_rfl) Try.ntmps13 (Nat.le_of_ble_eq_true rfl) fun b cs a0 hbf hbk hs0 => ?_
  have hm0 := Mem.le.refl m
  have hQ : ∀ {r : Bool}, Q r → f13_YR z m G (f13_post z m G  Q)  r := by intro r hq m' w'  hm' hst' ; exact ⟨r,  W.St.less hm' hst', rfl, hq⟩
  unfold f13 at hr
  refine to_seq (sub [0] f13_c) (sub [1] f13_c) (by kernel_rfl) ?_
  refine to_nd 0 1 (rops (sub [0] f13_c)) (by kernel_rfl) (by kernel_rfl) ?_
  refine nd_q (c := 0) 1 [0, 1] hs0 [(0, .slice a_x0 x0.length c_x0), (1, .int .i64 x1)] (by kernel_rfl) fun a1 hs2 => ?_
  refine nd_done ?_
  refine to_seq (sub [1, 0] f13_c) (sub [1, 1] f13_c) (by kernel_rfl) ?_
  refine to_seq (sub [1, 0, 0] f13_c) (sub [1, 0, 1] f13_c) (by kernel_rfl) ?_
  refine to_nd 1 4 (rops (sub [1, 0, 0] f13_c)) (by kernel_rfl) (by kernel_rfl) ?_
  refine nd_q (c := 0) 4 [0, 9] hs2 [(0, .slice a_x0 x0.length c_x0), (9, .bool (decide ((x0.length : Int) > x1)))] (by kernel_rfl) fun a3 hs4 => ?_
  refine nd_done ?_
  by_cases hb5 : (x0.length : Int) > x1
  · rw [if_pos hb5] at hr
    rw [(decide_eq_true hb5)] at hs4
    refine to_then (.tmp 9) (sub [1, 0, 1, 0] f13_c) (sub [1, 0, 1, 1] f13_c) (by kernel_rfl) hs4 (by kernel_rfl) ?_
    refine to_seq (sub [1, 0, 1, 0, 0] f13_c) (sub [1, 0, 1, 0, 1] f13_c) (by kernel_rfl) ?_
    refine to_nd 2 1 (rops (sub [1, 0, 1, 0, 0] f13_c)) (by kernel_rfl) (by kernel_rfl) ?_
    refine nd_q (c := 0) 1 [4] hs4 [(4, .bool false)] (by kernel_rfl) fun a6 hs7 => ?_
    refine nd_done ?_
    exact to_ret (v := .bool false) (by kernel_rfl) hbf Try.func13 hbk hs7 (by kernel_rfl) (hQ hr (Mem.le.refl _) hst )
  rw [if_neg hb5] at hr
  rw [(decide_eq_false hb5)] at hs4
  refine to_else (.tmp 9) (sub [1, 0, 1, 0] f13_c) (sub [1, 0, 1, 1] f13_c) (by kernel_rfl) hs4 (by kernel_rfl) ?_
  refine to_skip (by kernel_rfl) ?_
  refine to_seq (sub [1, 1, 0] f13_c) (sub [1, 1, 1] f13_c) (by kernel_rfl) ?_
  refine to_seq (sub [1, 1, 0, 0] f13_c) (sub [1, 1, 0, 1] f13_c) (by kernel_rfl) ?_
  refine to_nd 3 1 (rops (sub [1, 1, 0, 0] f13_c)) (by kernel_rfl) (by kernel_rfl) ?_
  refine nd_q (c := 0) 1 [0, 5] hs4 [(0, .slice a_x0 x0.length c_x0), (5, .int .i64 (0 : Int))] (by kernel_rfl) fun a8 hs9 => ?_
  refine nd_done ?_
  refine to_block 0 (sub [1, 1, 0, 1, 0] f13_c) (by kernel_rfl) ?_
  refine to_loop (sub [1, 1, 0, 1, 0, 0] f13_c) (by kernel_rfl) ?_
  have hs10 := hs9.kept [0, 5] [(0, .slice a_x0 x0.length c_x0), (5, .int .i64 (0 : Int))] (by kernel_rfl)
  refine f13_l1_ok hbf hbk h_x0  ?_ (fun hq => f13_YR_mono (Mem.le.refl _) (hQ hq)) hr (Mem.le.refl _) hst hs10 (inr_of (by kernel_rfl))
  intro _ hr
  intro m12 w14 a16  hm13 hst15 hs17 
  refine to_seq (sub [1, 1, 1, 0] f13_c) (sub [1, 1, 1, 1] f13_c) (by kernel_rfl) ?_
  refine to_nd 8 1 (rops (sub [1, 1, 1, 0] f13_c)) (by kernel_rfl) (by kernel_rfl) ?_
  refine nd_q (c := 0) 1 [4] hs17 [(4, .bool true)] (by kernel_rfl) fun a18 hs19 => ?_
  refine nd_done ?_
  exact to_ret (v := .bool true) (by kernel_rfl) hbf Try.func13 hbk hs19 (by kernel_rfl) (hQ hr hm13 hst15 )
/-! ### 14: salchow/salchowref50.New -/
noncomputable def f14_c : Code := codeOf Try.f14
def f14_post (z : Base) (m : Mem) (G : List Grp)  (Q : (Option S47) → Prop) : Ending → World → Prop := fun e w' => ∃ (r : (Option S47)) (p0_0 : Option Addr) (I0_0 : Grp), W.St z w' m (I0_0 :: G) ∧ e = .returned (.pointer p0_0) ∧ OwnN47 m p0_0 I0_0 r ∧ Q r
def f14_YR (z : Base) (m0 : Mem) (G : List Grp) (R : Ending → World → Prop)  (r : (Option S47)) : Prop := ∀ {m : Mem} {w : World} {p0_0 : Option Addr} {I0_0 : Grp}, m0.le m → W.St z w m (I0_0 :: G) → (OwnN47 m p0_0 I0_0 r) →  R (.returned (.pointer p0_0)) w
theorem f14_YR_mono {z : Base} {m0 m1 : Mem} {G : List Grp} {R : Ending → World → Prop}  {r : (Option S47)} (hm : m0.le m1) (h : f14_YR z m0 G R  r) : f14_YR z m1 G R  r := by
  intro m w p0_0 I0_0 hm'
  exact h (hm.trans hm')
def f14  (x0 : Int) : M (Option S47) := fun Q => ofO (mk 1 (w64 (x0 + (1 : Int))) false) fun r6 => Q (some (⟨x0, r6, ([] : List S67), (⟨(0 : Int), (0 : Int), (0 : Int)⟩ : S44)⟩ : S47))
theorem f14_ok  {z : Base} {w : World} {m : Mem} {G : List Grp} {x0 : Int} {Q : (Option S47) → Prop} (hst : W.St z w m (G)) (h_x0 : InR .i64 x0) (hr : f14  x0 Q) : Calls Try.prog 14 #[.int .i64 x0] w (f14_post z m G  Q) := by
  refine calls_begin (c := f14_c) (n := 9) [.int .i64 x0] Try.func14 (by kernel_rfl) Try.ntmps14 (Nat.le_of_ble_eq_true rfl) fun b cs a0 hbf hbk hs0 => ?_
  have hm0 := Mem.le.refl m
  have hQ : ∀ {r : (Option S47)}, Q r → f14_YR z m G (f14_post z m G  Q)  r := by intro r hq m' w' p0_0 I0_0 hm' hst' hf0_0; exact ⟨r, p0_0, I0_0,  W.St.less hm' hst', rfl, (OwnN47.flat hf0_0), hq⟩
  unfold f14 at hr
  refine to_seq (sub [0] f14_c) (sub [1] f14_c) (by kernel_rfl) ?_
  refine to_nd 0 1 (rops (sub [0] f14_c)) (by kernel_rfl) (by kernel_rfl) ?_
  refine nd_q (c := 0) 1 [0] hs0 [(0, .int .i64 x0)] (by kernel_rfl) fun a1 hs2 => ?_
  refine nd_done ?_
  refine to_seq (sub [1, 0] f14_c) (sub [1, 1] f14_c) (by kernel_rfl) ?_
  refine to_nd 1 7 (rops (sub [1, 0] f14_c)) (by kernel_rfl) (by kernel_rfl) ?_
  refine nd_q (c := 4) 3 [3, 5] hs2 [(3, .int .i64 x0), (5, .int .i64 (w64 (x0 + (1 : Int))))] (by kernel_rfl) fun a3 hs4 => ?_
  obtain ⟨r6, hcq5, hr⟩ := ofO_el hr
  obtain ⟨aq5, cq5, Iq5, wq5, hxq5, hstq5, hoq5⟩ := own_make (P := Try.prog) (o := opAt (rops (sub [1, 0] f14_c)) 3) (ρ := Env.rho hs4.env) (K := kBool) (zl := [.bool false]) (by kernel_rfl) hst kBool_mk hcq5
  refine nd_op (op_v (some 6) (.slice aq5 r6.length cq5) hs4 (by kernel_rfl) hxq5 fun a7 hs8 => ?_)
  refine nd_q (c := 2) 1 [7] hs8 [(7, .agg #[.int .i64 x0, .slice aq5 r6.length cq5, .slice none 0 0, .int .i64 (0 : Int), .int .i64 (0 : Int), .int .i64 (0 : Int)])] (by kernel_rfl) fun a9 hs10 => ?_
  have hst13 := hstq5.alloc (.cells [.int .i64 x0, .slice aq5 r6.length cq5, .slice none 0 0, .int .i64 (0 : Int), .int .i64 (0 : Int), .int .i64 (0 : Int)].toArray 48 (0, 0))
  refine nd_op (op_v (w' := wq5.alloc (.cells [.int .i64 x0, .slice aq5 r6.length cq5, .slice none 0 0, .int .i64 (0 : Int), .int .i64 (0 : Int), .int .i64 (0 : Int)].toArray 48 (0, 0))) (some 8) (.pointer (some ⟨wq5.heap.size, 0, none⟩)) hs10 (by kernel_rfl) (by kernel_rfl) fun a14 hs15 => ?_)
  generalize wq5.heap.size = b11 at hst13 hs15
  generalize wq5.alloc (.cells [.int .i64 x0, .slice aq5 r6.length cq5, .slice none 0 0, .int .i64 (0 : Int), .int .i64 (0 : Int), .int .i64 (0 : Int)].toArray 48 (0, 0)) = w12 at hst13 ⊢
  refine nd_q (c := 0) 1 [2] hs15 [(2, .pointer (some ⟨b11, 0, none⟩))] (by kernel_rfl) fun a16 hs17 => ?_
  refine nd_done ?_
  have hst18 := hst13.nil
  have hst19 := W.St.front [_, _] hst18
  have hst20 := W.St.front [_, _] hst19
  have hst21 := hst20.join.join
  have ho22 : OwnS47 m b11 ((([(b11, .cells [.int .i64 x0, .slice aq5 r6.length cq5, .slice none 0 0, .int .i64 (0 : Int), .int .i64 (0 : Int), .int .i64 (0 : Int)].toArray 48 (0, 0))] ++ Iq5) ++ [])) (⟨x0, r6, ([] : List S67), (⟨(0 : Int), (0 : Int), (0 : Int)⟩ : S44)⟩ : S47) := ⟨aq5, cq5, Iq5, none, 0, [], rfl, h_x0, hoq5, OwnSl.nil, (inr_of (by kernel_rfl)), (inr_of (by kernel_rfl)), (inr_of (by kernel_rfl))⟩
  generalize (([(b11, .cells [.int .i64 x0, .slice aq5 r6.length cq5, .slice none 0 0, .int .i64 (0 : Int), .int .i64 (0 : Int), .int .i64 (0 : Int)].toArray 48 (0, 0))] ++ Iq5) ++ []) = I23 at ho22 hst21
  exact to_ret (v := .pointer (some ⟨b11, 0, none⟩)) (by kernel_rfl) hbf Try.func14 hbk hs17 (by kernel_rfl) (hQ hr (Mem.le.refl _) hst21 (ho22.nn))
end Go.Proofs.Ytcnlbnccghjeaaa.W
