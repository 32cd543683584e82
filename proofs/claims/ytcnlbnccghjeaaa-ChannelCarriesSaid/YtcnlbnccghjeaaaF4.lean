/- Printed by gen2.py: Go functions as Lean functions, and the proofs that the calls come to them. Conditions: none. -/
import Derived.Test.YtcnlbnccghjeaaaF3
set_option linter.unusedVariables false
set_option linter.unusedSimpArgs false
set_option maxRecDepth 100000
namespace Go.Proofs.Ytcnlbnccghjeaaa.W
open Go

/-! ### 15: salchow/salchowlaw50.do -/
noncomputable def f15_c : Code := codeOf Try.f15
def f15_post (z : Base) (m : Mem) (G : List Grp) (b_x0 : Nat) (Q : (Int × S36 × Int × S62) → Prop) : Ending → World → Prop := fun e w' => ∃ (r : (Int × S36 × Int × S62)) (I_i0 : Grp), W.St z w' m (I_i0 :: G) ∧ e = .returned (.tuple #[.int .i64 r.1, .agg #[.int .i64 r.2.1.f0, .int .i64 r.2.1.f1, .string r.2.1.f2], .int .i64 r.2.2.1]) ∧ InR .i64 r.1 ∧ InR .i64 r.2.1.f0 ∧ InR .i64 r.2.1.f1 ∧ r.2.1.f2.size ≤ reach ∧ InR .i64 r.2.2.1 ∧ OwnS62 m b_x0 I_i0 r.2.2.2 ∧ Q r
def f15_YR (z : Base) (m0 : Mem) (G : List Grp) (R : Ending → World → Prop) (b_x0 : Nat) (r : (Int × S36 × Int × S62)) : Prop := ∀ {m : Mem} {w : World} {I_i0 : Grp}, m0.le m → W.St z w m (I_i0 :: G) → (InR .i64 r.1) → (InR .i64 r.2.1.f0) → (InR .i64 r.2.1.f1) → (r.2.1.f2.size ≤ reach) → (InR .i64 r.2.2.1) → (OwnS62 m b_x0 I_i0 r.2.2.2) →  R (.returned (.tuple #[.int .i64 r.1, .agg #[.int .i64 r.2.1.f0, .int .i64 r.2.1.f1, .string r.2.1.f2], .int .i64 r.2.2.1])) w
theorem f15_YR_mono {z : Base} {m0 m1 : Mem} {G : List Grp} {R : Ending → World → Prop} {b_x0 : Nat} {r : (Int × S36 × Int × S62)} (hm : m0.le m1) (h : f15_YR z m0 G R b_x0 r) : f15_YR z m1 G R b_x0 r := by
  intro m w I_i0 hm'
  exact h (hm.trans hm')
def f15  (x0 : S62) (x1 : S40) : M (Int × S36 × Int × S62) := fun Q => if x1.f0 = (0 : Int) then (f21 x0 x1.f1 x1.f2 x1.f3 fun r35 => Q (r35.1, (⟨(0 : Int), (0 : Int), ByteArray.empty⟩ : S36), r35.2.1, r35.2.2)) else (if x1.f0 = (1 : Int) then (f25 x0 x1.f1 fun r63 => Q ((0 : Int), r63.1, r63.2.1, r63.2.2)) else (if x1.f0 = (2 : Int) then (f26 x0 x1.f1 fun r117 => Q ((0 : Int), (⟨(0 : Int), (0 : Int), ByteArray.empty⟩ : S36), r117.1, r117.2)) else (if x1.f0 = (3 : Int) then (f22 x0 x1.f1 fun r143 => Q (r143.1, (⟨(0 : Int), (0 : Int), ByteArray.empty⟩ : S36), r143.2.1, r143.2.2)) else (if x1.f0 = (4 : Int) then (f23 x0 x1.f1 x1.f2 x1.f4 fun r179 => Q ((0 : Int), (⟨(0 : Int), (0 : Int), ByteArray.empty⟩ : S36), r179.1, r179.2)) else (f24 x0 x1.f1 x1.f5 fun r206 => Q ((0 : Int), (⟨(0 : Int), (0 : Int), ByteArray.empty⟩ : S36), r206.1, r206.2))))))
theorem f15_ok  {z : Base} {w : World} {m : Mem} {G : List Grp} {b_x0 : Nat} {I_x0 : Grp} {x0 : S62} {x1 : S40} {Q : (Int × S36 × Int × S62) → Prop} (hst : W.St z w m (I_x0 :: G)) (h_x0 : OwnS62 m b_x0 I_x0 x0) (h_x1_0 : InR .i64 x1.f0) (h_x1_1 : InR .i64 x1.f1) (h_x1_2 : InR .i64 x1.f2) (h_x1_3 : x1.f3.size ≤ reach) (h_x1_4 : InR .u8 x1.f4) (hr : f15  x0 x1 Q) : Calls Try.prog 15 #[.pointer (some ⟨b_x0, 0, none⟩), .agg #[.int .i64 x1.f0, .int .i64 x1.f1, .int .i64 x1.f2, .string x1.f3, .int .u8 x1.f4, .bool x1.f5]] w (f15_post z m G b_x0 Q) := by
  refine calls_begin (c := f15_c) (n := 79) [.pointer (some ⟨b_x0, 0, none⟩), .agg #[.int .i64 x1.f0, .int .i64 x1.f1, .int .i64 x1.f2, .string x1.f3, .int .u8 x1.f4, .bool x1.f5]] Try.func15 (by kernel_rfl) Try.ntmps15 (Nat.le_of_ble_eq_true rfl) fun b cs a0 hbf hbk hs0 => ?_
  have hm0 := Mem.le.refl m
  have hQ : ∀ {r : (Int × S36 × Int × S62)}, Q r → f15_YR z m G (f15_post z m G b_x0 Q) b_x0 r := by intro r hq m' w' I_i0 hm' hst' hf0_0 hf1_0 hf1_1 hf1_2 hf2_0 hf_i0; exact ⟨r, I_i0,  W.St.less hm' hst', rfl, hf0_0, hf1_0, hf1_1, hf1_2, hf2_0, (OwnS62.flat hf_i0), hq⟩
  unfold f15 at hr
  refine to_seq (sub [0] f15_c) (sub [1] f15_c) (by kernel_rfl) ?_
  refine to_nd 0 4 (rops (sub [0] f15_c)) (by kernel_rfl) (by kernel_rfl) ?_
  have hst3 := hst.alloc (.cells [.int .i64 x1.f0, .int .i64 x1.f1, .int .i64 x1.f2, .string x1.f3, .int .u8 x1.f4, .bool x1.f5].toArray 41 (0, 0))
  refine nd_op (op_v (w' := w.alloc (.cells [.int .i64 x1.f0, .int .i64 x1.f1, .int .i64 x1.f2, .string x1.f3, .int .u8 x1.f4, .bool x1.f5].toArray 41 (0, 0))) (some 3) (.pointer (some ⟨w.heap.size, 0, none⟩)) hs0 (by kernel_rfl) (by kernel_rfl) fun a4 hs5 => ?_)
  generalize w.heap.size = b1 at hst3 hs5
  generalize w.alloc (.cells [.int .i64 x1.f0, .int .i64 x1.f1, .int .i64 x1.f2, .string x1.f3, .int .u8 x1.f4, .bool x1.f5].toArray 41 (0, 0)) = w2 at hst3 ⊢
  refine nd_q (c := 2) 1 [0, 3] hs5 [(0, .pointer (some ⟨b_x0, 0, none⟩)), (3, .pointer (some ⟨b1, 0, none⟩))] (by kernel_rfl) fun a6 hs7 => ?_
  have hst10 := hst3.alloc (.cells [.int .i64 (0 : Int), .int .i64 (0 : Int), .string ByteArray.empty].toArray 37 (0, 0))
  refine nd_op (op_v (w' := w2.alloc (.cells [.int .i64 (0 : Int), .int .i64 (0 : Int), .string ByteArray.empty].toArray 37 (0, 0))) (some 5) (.pointer (some ⟨w2.heap.size, 0, none⟩)) hs7 (by kernel_rfl) (by kernel_rfl) fun a11 hs12 => ?_)
  generalize w2.heap.size = b8 at hst10 hs12
  generalize w2.alloc (.cells [.int .i64 (0 : Int), .int .i64 (0 : Int), .string ByteArray.empty].toArray 37 (0, 0)) = w9 at hst10 ⊢
  refine nd_q (c := 0) 1 [0, 3, 5] hs12 [(0, .pointer (some ⟨b_x0, 0, none⟩)), (3, .pointer (some ⟨b1, 0, none⟩)), (5, .pointer (some ⟨b8, 0, none⟩))] (by kernel_rfl) fun a13 hs14 => ?_
  refine nd_done ?_
  refine to_seq (sub [1, 0] f15_c) (sub [1, 1] f15_c) (by kernel_rfl) ?_
  refine to_seq (sub [1, 0, 0] f15_c) (sub [1, 0, 1] f15_c) (by kernel_rfl) ?_
  refine to_nd 1 2 (rops (sub [1, 0, 0] f15_c)) (by kernel_rfl) (by kernel_rfl) ?_
  refine nd_q (c := 1) 1 [0, 3, 5, 13] hs14 [(0, .pointer (some ⟨b_x0, 0, none⟩)), (3, .pointer (some ⟨b1, 0, none⟩)), (5, .pointer (some ⟨b8, 0, none⟩)), (13, .pointer (some ⟨b1, 0, none⟩))] (by kernel_rfl) fun a15 hs16 => ?_
  refine nd_v (i := 1) (c := 0) 14 (.int .i64 x1.f0) hs16 (by kernel_rfl) (ld1_run (P := Try.prog) (ad := ⟨b1, 0, none⟩) (by kernel_rfl) (W.St.ocell [_] hst10 0 (Nat.le_of_ble_eq_true rfl))) fun a17 hs18 => ?_
  refine nd_done ?_
  refine to_block 0 (sub [1, 0, 1, 0] f15_c) (by kernel_rfl) ?_
  refine to_seq (sub [1, 0, 1, 0, 0] f15_c) (sub [1, 0, 1, 0, 1] f15_c) (by kernel_rfl) ?_
  refine to_nd 2 2 (rops (sub [1, 0, 1, 0, 0] f15_c)) (by kernel_rfl) (by kernel_rfl) ?_
  refine nd_q (c := 0) 2 [0, 3, 5, 14, 15] hs18 [(0, .pointer (some ⟨b_x0, 0, none⟩)), (3, .pointer (some ⟨b1, 0, none⟩)), (5, .pointer (some ⟨b8, 0, none⟩)), (14, .int .i64 x1.f0), (15, .bool (x1.f0 == (0 : Int)))] (by kernel_rfl) fun a19 hs20 => ?_
  refine nd_done ?_
  by_cases hb21 : x1.f0 = (0 : Int)
  · rw [if_pos hb21] at hr
    rw [(eqT hb21)] at hs20
    refine to_then (.tmp 15) (sub [1, 0, 1, 0, 1, 0] f15_c) (sub [1, 0, 1, 0, 1, 1] f15_c) (by kernel_rfl) hs20 (by kernel_rfl) ?_
    refine to_seq (sub [1, 0, 1, 0, 1, 0, 0] f15_c) (sub [1, 0, 1, 0, 1, 0, 1] f15_c) (by kernel_rfl) ?_
    refine to_nd 3 13 (rops (sub [1, 0, 1, 0, 1, 0, 0] f15_c)) (by kernel_rfl) (by kernel_rfl) ?_
    refine nd_q (c := 11) 2 [3, 5, 18, 19] hs20 [(3, .pointer (some ⟨b1, 0, none⟩)), (5, .pointer (some ⟨b8, 0, none⟩)), (18, .pointer (some ⟨b_x0, 0, none⟩)), (19, .pointer (some ⟨b1, 1, none⟩))] (by kernel_rfl) fun a22 hs23 => ?_
    refine nd_v (i := 2) (c := 10) 20 (.int .i64 x1.f1) hs23 (by kernel_rfl) (ld1_run (P := Try.prog) (ad := ⟨b1, 1, none⟩) (by kernel_rfl) (W.St.ocell [_] hst10 1 (Nat.le_of_ble_eq_true rfl))) fun a24 hs25 => ?_
    refine nd_q (c := 9) 1 [3, 5, 18, 20, 21] hs25 [(3, .pointer (some ⟨b1, 0, none⟩)), (5, .pointer (some ⟨b8, 0, none⟩)), (18, .pointer (some ⟨b_x0, 0, none⟩)), (20, .int .i64 x1.f1), (21, .pointer (some ⟨b1, 2, none⟩))] (by kernel_rfl) fun a26 hs27 => ?_
    refine nd_v (i := 4) (c := 8) 22 (.int .i64 x1.f2) hs27 (by kernel_rfl) (ld1_run (P := Try.prog) (ad := ⟨b1, 2, none⟩) (by kernel_rfl) (W.St.ocell [_] hst10 2 (Nat.le_of_ble_eq_true rfl))) fun a28 hs29 => ?_
    refine nd_q (c := 7) 1 [5, 18, 20, 22, 23] hs29 [(5, .pointer (some ⟨b8, 0, none⟩)), (18, .pointer (some ⟨b_x0, 0, none⟩)), (20, .int .i64 x1.f1), (22, .int .i64 x1.f2), (23, .pointer (some ⟨b1, 3, none⟩))] (by kernel_rfl) fun a30 hs31 => ?_
    refine nd_v (i := 6) (c := 6) 24 (.string x1.f3) hs31 (by kernel_rfl) (ld1_run (P := Try.prog) (ad := ⟨b1, 3, none⟩) (by kernel_rfl) (W.St.ocell [_] hst10 3 (Nat.le_of_ble_eq_true rfl))) fun a32 hs33 => ?_
    have hst34 := W.St.front [_, _] hst10
    refine nd_op (op_call (some 25) hs33 (by kernel_rfl) (by kernel_rfl) ((f21_ok hst34 h_x0 h_x1_1 h_x1_2 h_x1_3 hr).mono ?_))
    rintro _ w36 ⟨r35, I35_i0, hst39, rfl, hf35_0_0, hf35_1_0, hf35_i0, hr⟩
    revert hr; intro hr
    refine ⟨_, rfl, fun a37 hs38 => ?_⟩
    refine nd_q (c := 0) 5 [5, 7, 8] hs38 [(5, .pointer (some ⟨b8, 0, none⟩)), (7, .int .i64 r35.1), (8, .int .i64 r35.2.1)] (by kernel_rfl) fun a42 hs43 => ?_
    refine nd_done ?_
    refine to_seq (sub [1, 0, 1, 0, 1, 0, 1, 0] f15_c) (sub [1, 0, 1, 0, 1, 0, 1, 1] f15_c) (by kernel_rfl) ?_
    refine to_nd 4 6 (rops (sub [1, 0, 1, 0, 1, 0, 1, 0] f15_c)) (by kernel_rfl) (by kernel_rfl) ?_
    refine nd_q (c := 2) 4 [4, 5, 29, 30] hs43 [(4, .int .i64 r35.1), (5, .pointer (some ⟨b8, 0, none⟩)), (29, .agg #[.int .i64 (0 : Int), .int .i64 (0 : Int), .string ByteArray.empty]), (30, .int .i64 r35.2.1)] (by kernel_rfl) fun a44 hs45 => ?_
    have hst46 := W.St.front [_] hst39
    obtain ⟨wq47, hxq47, hstq47⟩ := stq_run (P := Try.prog) (o := opAt (rops (sub [1, 0, 1, 0, 1, 0, 1, 0] f15_c)) 4) (ρ := Env.rho hs45.env) (off := 0) (vs := [.int .i64 (0 : Int), .int .i64 (0 : Int), .string ByteArray.empty]) (by kernel_rfl) (by kernel_rfl) (Nat.le_of_ble_eq_true rfl) hst46 [.int .i64 (0 : Int), .int .i64 (0 : Int), .string ByteArray.empty] rfl
    refine nd_op (op_s none hs45 (by kernel_rfl) hxq47 fun a48 hs49 => ?_)
    refine nd_q (c := 0) 1 [4, 5, 6] hs49 [(4, .int .i64 r35.1), (5, .pointer (some ⟨b8, 0, none⟩)), (6, .int .i64 r35.2.1)] (by kernel_rfl) fun a50 hs51 => ?_
    refine nd_done ?_
    have hv52 : (resultsF Try.f15 (Env.slot hs51.env a50)).run Try.prog wq47 = .ok (.tuple #[.int .i64 r35.1, .agg #[.int .i64 (0 : Int), .int .i64 (0 : Int), .string ByteArray.empty], .int .i64 r35.2.1]) wq47 := resF_run [.tmp 4, .cell 5 37, .tmp 6] [.int .i64 r35.1, .agg #[.int .i64 (0 : Int), .int .i64 (0 : Int), .string ByteArray.empty], .int .i64 r35.2.1] _ rfl ⟨rfl, ⟨_, rfl, loadVar_many (l := [.int .i64 (0 : Int), .int .i64 (0 : Int), .string ByteArray.empty]) 3 rfl (by kernel_rfl) (W.St.ocells [] hstq47)⟩, rfl, trivial⟩ rfl
    have hst53 := W.St.drop [] hstq47
    have hst54 := W.St.drop [_] hst53
    exact to_ret (v := .tuple #[.int .i64 r35.1, .agg #[.int .i64 (0 : Int), .int .i64 (0 : Int), .string ByteArray.empty], .int .i64 r35.2.1]) (by kernel_rfl) hbf Try.func15 hbk hs51 hv52 (hQ hr (Mem.le.refl _) hst54 hf35_0_0 (inr_of (by kernel_rfl)) (inr_of (by kernel_rfl)) empty_small hf35_1_0 hf35_i0)
  rw [if_neg hb21] at hr
  rw [(eqF hb21)] at hs20
  refine to_else (.tmp 15) (sub [1, 0, 1, 0, 1, 0] f15_c) (sub [1, 0, 1, 0, 1, 1] f15_c) (by kernel_rfl) hs20 (by kernel_rfl) ?_
  refine to_seq (sub [1, 0, 1, 0, 1, 1, 0] f15_c) (sub [1, 0, 1, 0, 1, 1, 1] f15_c) (by kernel_rfl) ?_
  refine to_nd 5 2 (rops (sub [1, 0, 1, 0, 1, 1, 0] f15_c)) (by kernel_rfl) (by kernel_rfl) ?_
  refine nd_q (c := 0) 2 [0, 3, 5, 14, 31] hs20 [(0, .pointer (some ⟨b_x0, 0, none⟩)), (3, .pointer (some ⟨b1, 0, none⟩)), (5, .pointer (some ⟨b8, 0, none⟩)), (14, .int .i64 x1.f0), (31, .bool (x1.f0 == (1 : Int)))] (by kernel_rfl) fun a55 hs56 => ?_
  refine nd_done ?_
  by_cases hb57 : x1.f0 = (1 : Int)
  · rw [if_pos hb57] at hr
    rw [(eqT hb57)] at hs56
    refine to_then (.tmp 31) (sub [1, 0, 1, 0, 1, 1, 1, 0] f15_c) (sub [1, 0, 1, 0, 1, 1, 1, 1] f15_c) (by kernel_rfl) hs56 (by kernel_rfl) ?_
    refine to_seq (sub [1, 0, 1, 0, 1, 1, 1, 0, 0] f15_c) (sub [1, 0, 1, 0, 1, 1, 1, 0, 1] f15_c) (by kernel_rfl) ?_
    refine to_nd 6 10 (rops (sub [1, 0, 1, 0, 1, 1, 1, 0, 0] f15_c)) (by kernel_rfl) (by kernel_rfl) ?_
    refine nd_q (c := 8) 2 [5, 34, 35] hs56 [(5, .pointer (some ⟨b8, 0, none⟩)), (34, .pointer (some ⟨b_x0, 0, none⟩)), (35, .pointer (some ⟨b1, 1, none⟩))] (by kernel_rfl) fun a58 hs59 => ?_
    refine nd_v (i := 2) (c := 7) 36 (.int .i64 x1.f1) hs59 (by kernel_rfl) (ld1_run (P := Try.prog) (ad := ⟨b1, 1, none⟩) (by kernel_rfl) (W.St.ocell [_] hst10 1 (Nat.le_of_ble_eq_true rfl))) fun a60 hs61 => ?_
    have hst62 := W.St.front [_, _] hst10
    refine nd_op (op_call (some 37) hs61 (by kernel_rfl) (by kernel_rfl) ((f25_ok hst62 h_x0 h_x1_1 hr).mono ?_))
    rintro _ w64 ⟨r63, I63_i0, hst67, rfl, hf63_0_0, hf63_0_1, hf63_0_2, hf63_1_0, hf63_i0, hr⟩
    revert hr; intro hr
    refine ⟨_, rfl, fun a65 hs66 => ?_⟩
    refine nd_q (c := 3) 3 [5, 38, 39] hs66 [(5, .pointer (some ⟨b8, 0, none⟩)), (38, .agg #[.int .i64 r63.1.f0, .int .i64 r63.1.f1, .string r63.1.f2]), (39, .int .i64 r63.2.1)] (by kernel_rfl) fun a70 hs71 => ?_
    have hst74 := hst67.alloc (.cells [.int .i64 (0 : Int), .int .i64 (0 : Int), .string ByteArray.empty].toArray 37 (0, 0))
    refine nd_op (op_v (w' := w64.alloc (.cells [.int .i64 (0 : Int), .int .i64 (0 : Int), .string ByteArray.empty].toArray 37 (0, 0))) (some 9) (.pointer (some ⟨w64.heap.size, 0, none⟩)) hs71 (by kernel_rfl) (by kernel_rfl) fun a75 hs76 => ?_)
    generalize w64.heap.size = b72 at hst74 hs76
    generalize w64.alloc (.cells [.int .i64 (0 : Int), .int .i64 (0 : Int), .string ByteArray.empty].toArray 37 (0, 0)) = w73 at hst74 ⊢
    obtain ⟨wq77, hxq77, hstq77⟩ := stq_run (P := Try.prog) (o := opAt (rops (sub [1, 0, 1, 0, 1, 1, 1, 0, 0] f15_c)) 8) (ρ := Env.rho hs76.env) (off := 0) (vs := [.int .i64 r63.1.f0, .int .i64 r63.1.f1, .string r63.1.f2]) (by kernel_rfl) (by kernel_rfl) (Nat.le_of_ble_eq_true rfl) hst74 [.int .i64 r63.1.f0, .int .i64 r63.1.f1, .string r63.1.f2] rfl
    refine nd_op (op_s none hs76 (by kernel_rfl) hxq77 fun a78 hs79 => ?_)
    refine nd_q (c := 0) 1 [5, 9, 10] hs79 [(5, .pointer (some ⟨b8, 0, none⟩)), (9, .pointer (some ⟨b72, 0, none⟩)), (10, .int .i64 r63.2.1)] (by kernel_rfl) fun a80 hs81 => ?_
    refine nd_done ?_
    refine to_seq (sub [1, 0, 1, 0, 1, 1, 1, 0, 1, 0] f15_c) (sub [1, 0, 1, 0, 1, 1, 1, 0, 1, 1] f15_c) (by kernel_rfl) ?_
    have hs82 := hs81.kept [5, 9, 10] [(5, .pointer (some ⟨b8, 0, none⟩)), (9, .pointer (some ⟨b72, 0, none⟩)), (10, .int .i64 r63.2.1)] (by kernel_rfl)
    refine to_dr 7 5 (rops (sub [1, 0, 1, 0, 1, 1, 1, 0, 1, 0] f15_c)) (by kernel_rfl) (by kernel_rfl) (by kernel_rfl) [3] (fun w => Go.Proofs.Ytcnlbnccghjeaaa.W.St z w m G) (fun _ w => Go.Proofs.Ytcnlbnccghjeaaa.W.St z w m ([(b72, .cells [.int .i64 r63.1.f0, .int .i64 r63.1.f1, .string r63.1.f2].toArray 37 (0, 0))] :: I63_i0 :: [(b8, .cells [.int .i64 (0 : Int), .int .i64 (0 : Int), .string ByteArray.empty].toArray 37 (0, 0))] :: [(b1, .cells [.int .i64 x1.f0, .int .i64 x1.f1, .int .i64 x1.f2, .string x1.f3, .int .u8 x1.f4, .bool x1.f5].toArray 41 (0, 0))] :: G)) fun hd83 => ?_
    have hst85 := hstq77.drawn (wq77.drawn + 1)
    generalize hw86 : ({ wq77 with drawn := wq77.drawn + 1 } : World) = w84 at hst85 ⊢
    clear hw86
    refine dr_vp (fuel := 4) 0 40 (.agg #[.int .i64 r63.1.f0, .int .i64 r63.1.f1, .string r63.1.f2]) [3] hs82 hd83 ⟨hst85.drop1.drop1.drop1.drop1, fun _ _ _ => hst85⟩ (by kernel_rfl) (by kernel_rfl) (by kernel_rfl) (fun _ _ => hst85) (by kernel_rfl) (fun w hT hF => ldN_run (P := Try.prog) (ad := ⟨b72, 0, none⟩) (l := [.int .i64 r63.1.f0, .int .i64 r63.1.f1, .string r63.1.f2]) 3 rfl (by kernel_rfl) (W.St.ocells [] (hF 3 (by simp)))) fun a88 hs89 hd87 hS90 => ?_
    refine dr_q (fuel := 2) [1, 2] [4, 5, 40, 41] [] hs89 hd87 ⟨hst85.drop1.drop1.drop1.drop1, fun _ _ _ => hst85⟩ (by kernel_rfl) (by kernel_rfl) ([(4, .int .i64 (0 : Int)), (41, .int .i64 r63.2.1)] ++ ((40, .agg #[.int .i64 r63.1.f0, .int .i64 r63.1.f1, .string r63.1.f2]) :: [(5, .pointer (some ⟨b8, 0, none⟩)), (9, .pointer (some ⟨b72, 0, none⟩)), (10, .int .i64 r63.2.1)])) [(4, .int .i64 (0 : Int)), (5, .pointer (some ⟨b8, 0, none⟩)), (40, .agg #[.int .i64 r63.1.f0, .int .i64 r63.1.f1, .string r63.1.f2]), (41, .int .i64 r63.2.1)] (by kernel_rfl) (by kernel_rfl) (fun _ hx => by cases hx) (fun w hT _ => by kernel_rfl) fun a91 hs92 hd93 hS94 => ?_
    have hst96 := W.St.front [_, _] hst85
    obtain ⟨wq97, hxq97, hstq97⟩ := stq_run (P := Try.prog) (o := opAt (rops (sub [1, 0, 1, 0, 1, 1, 1, 0, 1, 0] f15_c)) 3) (ρ := Env.rho hs92.env) (off := 0) (vs := [.int .i64 r63.1.f0, .int .i64 r63.1.f1, .string r63.1.f2]) (by kernel_rfl) (by kernel_rfl) (Nat.le_of_ble_eq_true rfl) hst96 [.int .i64 r63.1.f0, .int .i64 r63.1.f1, .string r63.1.f2] rfl
    refine dr_op (i := 3) hd93 (by kernel_rfl) fun hd95 => op_s none hs92 (by kernel_rfl) hxq97 fun a98 hs99 => ?_
    refine ⟨SE_hit hstq97.drop1.drop1.drop1.drop1 rfl, reset_hit (es' := []) (T' := (fun w => Go.Proofs.Ytcnlbnccghjeaaa.W.St z w m ([(b8, .cells [.int .i64 r63.1.f0, .int .i64 r63.1.f1, .string r63.1.f2].toArray 37 (0, 0))] :: [(b72, .cells [.int .i64 r63.1.f0, .int .i64 r63.1.f1, .string r63.1.f2].toArray 37 (0, 0))] :: I63_i0 :: [(b1, .cells [.int .i64 x1.f0, .int .i64 x1.f1, .int .i64 x1.f2, .string x1.f3, .int .u8 x1.f4, .bool x1.f5].toArray 41 (0, 0))] :: G))) (F' := (fun _ _ => True)) rfl (fun w hT => ?_) ?_⟩
    · exact hT.drop1.drop1.drop1.drop1
    have hs100 := hs99.kept [4, 5, 40, 41] [(4, .int .i64 (0 : Int)), (5, .pointer (some ⟨b8, 0, none⟩)), (40, .agg #[.int .i64 r63.1.f0, .int .i64 r63.1.f1, .string r63.1.f2]), (41, .int .i64 r63.2.1)] (by kernel_rfl)
    refine dr_q (fuel := 0) [4] [4, 5, 6] [] hs100 hd95 ⟨hstq97, fun _ hx => by cases hx⟩ (by kernel_rfl) (by kernel_rfl) ([(6, .int .i64 r63.2.1)] ++ [(4, .int .i64 (0 : Int)), (5, .pointer (some ⟨b8, 0, none⟩)), (40, .agg #[.int .i64 r63.1.f0, .int .i64 r63.1.f1, .string r63.1.f2]), (41, .int .i64 r63.2.1)]) [(4, .int .i64 (0 : Int)), (5, .pointer (some ⟨b8, 0, none⟩)), (6, .int .i64 r63.2.1)] (by kernel_rfl) (by kernel_rfl) (fun _ hx => by cases hx) (fun w hT _ => by kernel_rfl) fun a101 hs102 hd103 hS104 => ?_
    refine dr_done (by kernel_rfl) ?_
    have hv105 : (resultsF Try.f15 (Env.slot hs102.env a101)).run Try.prog wq97 = .ok (.tuple #[.int .i64 (0 : Int), .agg #[.int .i64 r63.1.f0, .int .i64 r63.1.f1, .string r63.1.f2], .int .i64 r63.2.1]) wq97 := resF_run [.tmp 4, .cell 5 37, .tmp 6] [.int .i64 (0 : Int), .agg #[.int .i64 r63.1.f0, .int .i64 r63.1.f1, .string r63.1.f2], .int .i64 r63.2.1] _ rfl ⟨rfl, ⟨_, rfl, loadVar_many (l := [.int .i64 r63.1.f0, .int .i64 r63.1.f1, .string r63.1.f2]) 3 rfl (by kernel_rfl) (W.St.ocells [] hstq97)⟩, rfl, trivial⟩ rfl
    have hst106 := W.St.drop [] hstq97
    have hst107 := W.St.drop [] hst106
    have hst108 := W.St.drop [_] hst107
    exact to_ret (v := .tuple #[.int .i64 (0 : Int), .agg #[.int .i64 r63.1.f0, .int .i64 r63.1.f1, .string r63.1.f2], .int .i64 r63.2.1]) (by kernel_rfl) hbf Try.func15 hbk hs102 hv105 (hQ hr (Mem.le.refl _) hst108 (inr_of (by kernel_rfl)) hf63_0_0 hf63_0_1 hf63_0_2 hf63_1_0 hf63_i0)
  rw [if_neg hb57] at hr
  rw [(eqF hb57)] at hs56
  refine to_else (.tmp 31) (sub [1, 0, 1, 0, 1, 1, 1, 0] f15_c) (sub [1, 0, 1, 0, 1, 1, 1, 1] f15_c) (by kernel_rfl) hs56 (by kernel_rfl) ?_
  refine to_seq (sub [1, 0, 1, 0, 1, 1, 1, 1, 0] f15_c) (sub [1, 0, 1, 0, 1, 1, 1, 1, 1] f15_c) (by kernel_rfl) ?_
  refine to_nd 8 2 (rops (sub [1, 0, 1, 0, 1, 1, 1, 1, 0] f15_c)) (by kernel_rfl) (by kernel_rfl) ?_
  refine nd_q (c := 0) 2 [0, 3, 5, 14, 42] hs56 [(0, .pointer (some ⟨b_x0, 0, none⟩)), (3, .pointer (some ⟨b1, 0, none⟩)), (5, .pointer (some ⟨b8, 0, none⟩)), (14, .int .i64 x1.f0), (42, .bool (x1.f0 == (2 : Int)))] (by kernel_rfl) fun a109 hs110 => ?_
  refine nd_done ?_
  by_cases hb111 : x1.f0 = (2 : Int)
  · rw [if_pos hb111] at hr
    rw [(eqT hb111)] at hs110
    refine to_then (.tmp 42) (sub [1, 0, 1, 0, 1, 1, 1, 1, 1, 0] f15_c) (sub [1, 0, 1, 0, 1, 1, 1, 1, 1, 1] f15_c) (by kernel_rfl) hs110 (by kernel_rfl) ?_
    refine to_seq (sub [1, 0, 1, 0, 1, 1, 1, 1, 1, 0, 0] f15_c) (sub [1, 0, 1, 0, 1, 1, 1, 1, 1, 0, 1] f15_c) (by kernel_rfl) ?_
    refine to_nd 9 8 (rops (sub [1, 0, 1, 0, 1, 1, 1, 1, 1, 0, 0] f15_c)) (by kernel_rfl) (by kernel_rfl) ?_
    refine nd_q (c := 5) 3 [5, 44, 45, 46] hs110 [(5, .pointer (some ⟨b8, 0, none⟩)), (44, .agg #[.int .i64 (0 : Int), .int .i64 (0 : Int), .string ByteArray.empty]), (45, .pointer (some ⟨b_x0, 0, none⟩)), (46, .pointer (some ⟨b1, 1, none⟩))] (by kernel_rfl) fun a112 hs113 => ?_
    refine nd_v (i := 3) (c := 4) 47 (.int .i64 x1.f1) hs113 (by kernel_rfl) (ld1_run (P := Try.prog) (ad := ⟨b1, 1, none⟩) (by kernel_rfl) (W.St.ocell [_] hst10 1 (Nat.le_of_ble_eq_true rfl))) fun a114 hs115 => ?_
    have hst116 := W.St.front [_, _] hst10
    refine nd_op (op_call (some 48) hs115 (by kernel_rfl) (by kernel_rfl) ((f26_ok hst116 h_x0 h_x1_1 hr).mono ?_))
    rintro _ w118 ⟨r117, I117_i0, hst121, rfl, hf117_0_0, hf117_i0, hr⟩
    revert hr; intro hr
    refine ⟨_, rfl, fun a119 hs120 => ?_⟩
    refine nd_q (c := 2) 1 [4, 5, 44, 48] hs120 [(4, .int .i64 (0 : Int)), (5, .pointer (some ⟨b8, 0, none⟩)), (44, .agg #[.int .i64 (0 : Int), .int .i64 (0 : Int), .string ByteArray.empty]), (48, .int .i64 r117.1)] (by kernel_rfl) fun a124 hs125 => ?_
    have hst126 := W.St.front [_] hst121
    obtain ⟨wq127, hxq127, hstq127⟩ := stq_run (P := Try.prog) (o := opAt (rops (sub [1, 0, 1, 0, 1, 1, 1, 1, 1, 0, 0] f15_c)) 6) (ρ := Env.rho hs125.env) (off := 0) (vs := [.int .i64 (0 : Int), .int .i64 (0 : Int), .string ByteArray.empty]) (by kernel_rfl) (by kernel_rfl) (Nat.le_of_ble_eq_true rfl) hst126 [.int .i64 (0 : Int), .int .i64 (0 : Int), .string ByteArray.empty] rfl
    refine nd_op (op_s none hs125 (by kernel_rfl) hxq127 fun a128 hs129 => ?_)
    refine nd_q (c := 0) 1 [4, 5, 6] hs129 [(4, .int .i64 (0 : Int)), (5, .pointer (some ⟨b8, 0, none⟩)), (6, .int .i64 r117.1)] (by kernel_rfl) fun a130 hs131 => ?_
    refine nd_done ?_
    have hv132 : (resultsF Try.f15 (Env.slot hs131.env a130)).run Try.prog wq127 = .ok (.tuple #[.int .i64 (0 : Int), .agg #[.int .i64 (0 : Int), .int .i64 (0 : Int), .string ByteArray.empty], .int .i64 r117.1]) wq127 := resF_run [.tmp 4, .cell 5 37, .tmp 6] [.int .i64 (0 : Int), .agg #[.int .i64 (0 : Int), .int .i64 (0 : Int), .string ByteArray.empty], .int .i64 r117.1] _ rfl ⟨rfl, ⟨_, rfl, loadVar_many (l := [.int .i64 (0 : Int), .int .i64 (0 : Int), .string ByteArray.empty]) 3 rfl (by kernel_rfl) (W.St.ocells [] hstq127)⟩, rfl, trivial⟩ rfl
    have hst133 := W.St.drop [] hstq127
    have hst134 := W.St.drop [_] hst133
    exact to_ret (v := .tuple #[.int .i64 (0 : Int), .agg #[.int .i64 (0 : Int), .int .i64 (0 : Int), .string ByteArray.empty], .int .i64 r117.1]) (by kernel_rfl) hbf Try.func15 hbk hs131 hv132 (hQ hr (Mem.le.refl _) hst134 (inr_of (by kernel_rfl)) (inr_of (by kernel_rfl)) (inr_of (by kernel_rfl)) empty_small hf117_0_0 hf117_i0)
  rw [if_neg hb111] at hr
  rw [(eqF hb111)] at hs110
  refine to_else (.tmp 42) (sub [1, 0, 1, 0, 1, 1, 1, 1, 1, 0] f15_c) (sub [1, 0, 1, 0, 1, 1, 1, 1, 1, 1] f15_c) (by kernel_rfl) hs110 (by kernel_rfl) ?_
  refine to_seq (sub [1, 0, 1, 0, 1, 1, 1, 1, 1, 1, 0] f15_c) (sub [1, 0, 1, 0, 1, 1, 1, 1, 1, 1, 1] f15_c) (by kernel_rfl) ?_
  refine to_nd 10 2 (rops (sub [1, 0, 1, 0, 1, 1, 1, 1, 1, 1, 0] f15_c)) (by kernel_rfl) (by kernel_rfl) ?_
  refine nd_q (c := 0) 2 [0, 3, 5, 14, 49] hs110 [(0, .pointer (some ⟨b_x0, 0, none⟩)), (3, .pointer (some ⟨b1, 0, none⟩)), (5, .pointer (some ⟨b8, 0, none⟩)), (14, .int .i64 x1.f0), (49, .bool (x1.f0 == (3 : Int)))] (by kernel_rfl) fun a135 hs136 => ?_
  refine nd_done ?_
  by_cases hb137 : x1.f0 = (3 : Int)
  · rw [if_pos hb137] at hr
    rw [(eqT hb137)] at hs136
    refine to_then (.tmp 49) (sub [1, 0, 1, 0, 1, 1, 1, 1, 1, 1, 1, 0] f15_c) (sub [1, 0, 1, 0, 1, 1, 1, 1, 1, 1, 1, 1] f15_c) (by kernel_rfl) hs136 (by kernel_rfl) ?_
    refine to_seq (sub [1, 0, 1, 0, 1, 1, 1, 1, 1, 1, 1, 0, 0] f15_c) (sub [1, 0, 1, 0, 1, 1, 1, 1, 1, 1, 1, 0, 1] f15_c) (by kernel_rfl) ?_
    refine to_nd 11 9 (rops (sub [1, 0, 1, 0, 1, 1, 1, 1, 1, 1, 1, 0, 0] f15_c)) (by kernel_rfl) (by kernel_rfl) ?_
    refine nd_q (c := 7) 2 [5, 52, 53] hs136 [(5, .pointer (some ⟨b8, 0, none⟩)), (52, .pointer (some ⟨b_x0, 0, none⟩)), (53, .pointer (some ⟨b1, 1, none⟩))] (by kernel_rfl) fun a138 hs139 => ?_
    refine nd_v (i := 2) (c := 6) 54 (.int .i64 x1.f1) hs139 (by kernel_rfl) (ld1_run (P := Try.prog) (ad := ⟨b1, 1, none⟩) (by kernel_rfl) (W.St.ocell [_] hst10 1 (Nat.le_of_ble_eq_true rfl))) fun a140 hs141 => ?_
    have hst142 := W.St.front [_, _] hst10
    refine nd_op (op_call (some 55) hs141 (by kernel_rfl) (by kernel_rfl) ((f22_ok hst142 h_x0 h_x1_1 hr).mono ?_))
    rintro _ w144 ⟨r143, I143_i0, hst147, rfl, hf143_0_0, hf143_1_0, hf143_i0, hr⟩
    revert hr; intro hr
    refine ⟨_, rfl, fun a145 hs146 => ?_⟩
    refine nd_q (c := 0) 5 [5, 11, 12] hs146 [(5, .pointer (some ⟨b8, 0, none⟩)), (11, .int .i64 r143.1), (12, .int .i64 r143.2.1)] (by kernel_rfl) fun a150 hs151 => ?_
    refine nd_done ?_
    refine to_seq (sub [1, 0, 1, 0, 1, 1, 1, 1, 1, 1, 1, 0, 1, 0] f15_c) (sub [1, 0, 1, 0, 1, 1, 1, 1, 1, 1, 1, 0, 1, 1] f15_c) (by kernel_rfl) ?_
    refine to_nd 12 6 (rops (sub [1, 0, 1, 0, 1, 1, 1, 1, 1, 1, 1, 0, 1, 0] f15_c)) (by kernel_rfl) (by kernel_rfl) ?_
    refine nd_q (c := 2) 4 [4, 5, 59, 60] hs151 [(4, .int .i64 r143.1), (5, .pointer (some ⟨b8, 0, none⟩)), (59, .agg #[.int .i64 (0 : Int), .int .i64 (0 : Int), .string ByteArray.empty]), (60, .int .i64 r143.2.1)] (by kernel_rfl) fun a152 hs153 => ?_
    have hst154 := W.St.front [_] hst147
    obtain ⟨wq155, hxq155, hstq155⟩ := stq_run (P := Try.prog) (o := opAt (rops (sub [1, 0, 1, 0, 1, 1, 1, 1, 1, 1, 1, 0, 1, 0] f15_c)) 4) (ρ := Env.rho hs153.env) (off := 0) (vs := [.int .i64 (0 : Int), .int .i64 (0 : Int), .string ByteArray.empty]) (by kernel_rfl) (by kernel_rfl) (Nat.le_of_ble_eq_true rfl) hst154 [.int .i64 (0 : Int), .int .i64 (0 : Int), .string ByteArray.empty] rfl
    refine nd_op (op_s none hs153 (by kernel_rfl) hxq155 fun a156 hs157 => ?_)
    refine nd_q (c := 0) 1 [4, 5, 6] hs157 [(4, .int .i64 r143.1), (5, .pointer (some ⟨b8, 0, none⟩)), (6, .int .i64 r143.2.1)] (by kernel_rfl) fun a158 hs159 => ?_
    refine nd_done ?_
    have hv160 : (resultsF Try.f15 (Env.slot hs159.env a158)).run Try.prog wq155 = .ok (.tuple #[.int .i64 r143.1, .agg #[.int .i64 (0 : Int), .int .i64 (0 : Int), .string ByteArray.empty], .int .i64 r143.2.1]) wq155 := resF_run [.tmp 4, .cell 5 37, .tmp 6] [.int .i64 r143.1, .agg #[.int .i64 (0 : Int), .int .i64 (0 : Int), .string ByteArray.empty], .int .i64 r143.2.1] _ rfl ⟨rfl, ⟨_, rfl, loadVar_many (l := [.int .i64 (0 : Int), .int .i64 (0 : Int), .string ByteArray.empty]) 3 rfl (by kernel_rfl) (W.St.ocells [] hstq155)⟩, rfl, trivial⟩ rfl
    have hst161 := W.St.drop [] hstq155
    have hst162 := W.St.drop [_] hst161
    exact to_ret (v := .tuple #[.int .i64 r143.1, .agg #[.int .i64 (0 : Int), .int .i64 (0 : Int), .string ByteArray.empty], .int .i64 r143.2.1]) (by kernel_rfl) hbf Try.func15 hbk hs159 hv160 (hQ hr (Mem.le.refl _) hst162 hf143_0_0 (inr_of (by kernel_rfl)) (inr_of (by kernel_rfl)) empty_small hf143_1_0 hf143_i0)
  rw [if_neg hb137] at hr
  rw [(eqF hb137)] at hs136
  refine to_else (.tmp 49) (sub [1, 0, 1, 0, 1, 1, 1, 1, 1, 1, 1, 0] f15_c) (sub [1, 0, 1, 0, 1, 1, 1, 1, 1, 1, 1, 1] f15_c) (by kernel_rfl) hs136 (by kernel_rfl) ?_
  refine to_seq (sub [1, 0, 1, 0, 1, 1, 1, 1, 1, 1, 1, 1, 0] f15_c) (sub [1, 0, 1, 0, 1, 1, 1, 1, 1, 1, 1, 1, 1] f15_c) (by kernel_rfl) ?_
  refine to_nd 13 2 (rops (sub [1, 0, 1, 0, 1, 1, 1, 1, 1, 1, 1, 1, 0] f15_c)) (by kernel_rfl) (by kernel_rfl) ?_
  refine nd_q (c := 0) 2 [0, 3, 5, 61] hs136 [(0, .pointer (some ⟨b_x0, 0, none⟩)), (3, .pointer (some ⟨b1, 0, none⟩)), (5, .pointer (some ⟨b8, 0, none⟩)), (61, .bool (x1.f0 == (4 : Int)))] (by kernel_rfl) fun a163 hs164 => ?_
  refine nd_done ?_
  by_cases hb165 : x1.f0 = (4 : Int)
  · rw [if_pos hb165] at hr
    rw [(eqT hb165)] at hs164
    refine to_then (.tmp 61) (sub [1, 0, 1, 0, 1, 1, 1, 1, 1, 1, 1, 1, 1, 0] f15_c) (sub [1, 0, 1, 0, 1, 1, 1, 1, 1, 1, 1, 1, 1, 1] f15_c) (by kernel_rfl) hs164 (by kernel_rfl) ?_
    refine to_seq (sub [1, 0, 1, 0, 1, 1, 1, 1, 1, 1, 1, 1, 1, 0, 0] f15_c) (sub [1, 0, 1, 0, 1, 1, 1, 1, 1, 1, 1, 1, 1, 0, 1] f15_c) (by kernel_rfl) ?_
    refine to_nd 14 12 (rops (sub [1, 0, 1, 0, 1, 1, 1, 1, 1, 1, 1, 1, 1, 0, 0] f15_c)) (by kernel_rfl) (by kernel_rfl) ?_
    refine nd_q (c := 9) 3 [3, 5, 63, 64, 65] hs164 [(3, .pointer (some ⟨b1, 0, none⟩)), (5, .pointer (some ⟨b8, 0, none⟩)), (63, .agg #[.int .i64 (0 : Int), .int .i64 (0 : Int), .string ByteArray.empty]), (64, .pointer (some ⟨b_x0, 0, none⟩)), (65, .pointer (some ⟨b1, 1, none⟩))] (by kernel_rfl) fun a166 hs167 => ?_
    refine nd_v (i := 3) (c := 8) 66 (.int .i64 x1.f1) hs167 (by kernel_rfl) (ld1_run (P := Try.prog) (ad := ⟨b1, 1, none⟩) (by kernel_rfl) (W.St.ocell [_] hst10 1 (Nat.le_of_ble_eq_true rfl))) fun a168 hs169 => ?_
    refine nd_q (c := 7) 1 [3, 5, 63, 64, 66, 67] hs169 [(3, .pointer (some ⟨b1, 0, none⟩)), (5, .pointer (some ⟨b8, 0, none⟩)), (63, .agg #[.int .i64 (0 : Int), .int .i64 (0 : Int), .string ByteArray.empty]), (64, .pointer (some ⟨b_x0, 0, none⟩)), (66, .int .i64 x1.f1), (67, .pointer (some ⟨b1, 2, none⟩))] (by kernel_rfl) fun a170 hs171 => ?_
    refine nd_v (i := 5) (c := 6) 68 (.int .i64 x1.f2) hs171 (by kernel_rfl) (ld1_run (P := Try.prog) (ad := ⟨b1, 2, none⟩) (by kernel_rfl) (W.St.ocell [_] hst10 2 (Nat.le_of_ble_eq_true rfl))) fun a172 hs173 => ?_
    refine nd_q (c := 5) 1 [5, 63, 64, 66, 68, 69] hs173 [(5, .pointer (some ⟨b8, 0, none⟩)), (63, .agg #[.int .i64 (0 : Int), .int .i64 (0 : Int), .string ByteArray.empty]), (64, .pointer (some ⟨b_x0, 0, none⟩)), (66, .int .i64 x1.f1), (68, .int .i64 x1.f2), (69, .pointer (some ⟨b1, 4, none⟩))] (by kernel_rfl) fun a174 hs175 => ?_
    refine nd_v (i := 7) (c := 4) 70 (.int .u8 x1.f4) hs175 (by kernel_rfl) (ld1_run (P := Try.prog) (ad := ⟨b1, 4, none⟩) (by kernel_rfl) (W.St.ocell [_] hst10 4 (Nat.le_of_ble_eq_true rfl))) fun a176 hs177 => ?_
    have hst178 := W.St.front [_, _] hst10
    refine nd_op (op_call (some 71) hs177 (by kernel_rfl) (by kernel_rfl) ((f23_ok hst178 h_x0 h_x1_1 h_x1_2 h_x1_4 hr).mono ?_))
    rintro _ w180 ⟨r179, I179_i0, hst183, rfl, hf179_0_0, hf179_i0, hr⟩
    revert hr; intro hr
    refine ⟨_, rfl, fun a181 hs182 => ?_⟩
    refine nd_q (c := 2) 1 [4, 5, 63, 71] hs182 [(4, .int .i64 (0 : Int)), (5, .pointer (some ⟨b8, 0, none⟩)), (63, .agg #[.int .i64 (0 : Int), .int .i64 (0 : Int), .string ByteArray.empty]), (71, .int .i64 r179.1)] (by kernel_rfl) fun a186 hs187 => ?_
    have hst188 := W.St.front [_] hst183
    obtain ⟨wq189, hxq189, hstq189⟩ := stq_run (P := Try.prog) (o := opAt (rops (sub [1, 0, 1, 0, 1, 1, 1, 1, 1, 1, 1, 1, 1, 0, 0] f15_c)) 10) (ρ := Env.rho hs187.env) (off := 0) (vs := [.int .i64 (0 : Int), .int .i64 (0 : Int), .string ByteArray.empty]) (by kernel_rfl) (by kernel_rfl) (Nat.le_of_ble_eq_true rfl) hst188 [.int .i64 (0 : Int), .int .i64 (0 : Int), .string ByteArray.empty] rfl
    refine nd_op (op_s none hs187 (by kernel_rfl) hxq189 fun a190 hs191 => ?_)
    refine nd_q (c := 0) 1 [4, 5, 6] hs191 [(4, .int .i64 (0 : Int)), (5, .pointer (some ⟨b8, 0, none⟩)), (6, .int .i64 r179.1)] (by kernel_rfl) fun a192 hs193 => ?_
    refine nd_done ?_
    have hv194 : (resultsF Try.f15 (Env.slot hs193.env a192)).run Try.prog wq189 = .ok (.tuple #[.int .i64 (0 : Int), .agg #[.int .i64 (0 : Int), .int .i64 (0 : Int), .string ByteArray.empty], .int .i64 r179.1]) wq189 := resF_run [.tmp 4, .cell 5 37, .tmp 6] [.int .i64 (0 : Int), .agg #[.int .i64 (0 : Int), .int .i64 (0 : Int), .string ByteArray.empty], .int .i64 r179.1] _ rfl ⟨rfl, ⟨_, rfl, loadVar_many (l := [.int .i64 (0 : Int), .int .i64 (0 : Int), .string ByteArray.empty]) 3 rfl (by kernel_rfl) (W.St.ocells [] hstq189)⟩, rfl, trivial⟩ rfl
    have hst195 := W.St.drop [] hstq189
    have hst196 := W.St.drop [_] hst195
    exact to_ret (v := .tuple #[.int .i64 (0 : Int), .agg #[.int .i64 (0 : Int), .int .i64 (0 : Int), .string ByteArray.empty], .int .i64 r179.1]) (by kernel_rfl) hbf Try.func15 hbk hs193 hv194 (hQ hr (Mem.le.refl _) hst196 (inr_of (by kernel_rfl)) (inr_of (by kernel_rfl)) (inr_of (by kernel_rfl)) empty_small hf179_0_0 hf179_i0)
  rw [if_neg hb165] at hr
  rw [(eqF hb165)] at hs164
  refine to_else (.tmp 61) (sub [1, 0, 1, 0, 1, 1, 1, 1, 1, 1, 1, 1, 1, 0] f15_c) (sub [1, 0, 1, 0, 1, 1, 1, 1, 1, 1, 1, 1, 1, 1] f15_c) (by kernel_rfl) hs164 (by kernel_rfl) ?_
  refine to_skip (by kernel_rfl) ?_
  refine reach_inBlock ?_
  refine to_seq (sub [1, 1, 0] f15_c) (sub [1, 1, 1] f15_c) (by kernel_rfl) ?_
  refine to_nd 15 10 (rops (sub [1, 1, 0] f15_c)) (by kernel_rfl) (by kernel_rfl) ?_
  refine nd_q (c := 7) 3 [3, 5, 72, 73, 74] hs164 [(3, .pointer (some ⟨b1, 0, none⟩)), (5, .pointer (some ⟨b8, 0, none⟩)), (72, .agg #[.int .i64 (0 : Int), .int .i64 (0 : Int), .string ByteArray.empty]), (73, .pointer (some ⟨b_x0, 0, none⟩)), (74, .pointer (some ⟨b1, 1, none⟩))] (by kernel_rfl) fun a197 hs198 => ?_
  refine nd_v (i := 3) (c := 6) 75 (.int .i64 x1.f1) hs198 (by kernel_rfl) (ld1_run (P := Try.prog) (ad := ⟨b1, 1, none⟩) (by kernel_rfl) (W.St.ocell [_] hst10 1 (Nat.le_of_ble_eq_true rfl))) fun a199 hs200 => ?_
  refine nd_q (c := 5) 1 [5, 72, 73, 75, 76] hs200 [(5, .pointer (some ⟨b8, 0, none⟩)), (72, .agg #[.int .i64 (0 : Int), .int .i64 (0 : Int), .string ByteArray.empty]), (73, .pointer (some ⟨b_x0, 0, none⟩)), (75, .int .i64 x1.f1), (76, .pointer (some ⟨b1, 5, none⟩))] (by kernel_rfl) fun a201 hs202 => ?_
  refine nd_v (i := 5) (c := 4) 77 (.bool x1.f5) hs202 (by kernel_rfl) (ld1_run (P := Try.prog) (ad := ⟨b1, 5, none⟩) (by kernel_rfl) (W.St.ocell [_] hst10 5 (Nat.le_of_ble_eq_true rfl))) fun a203 hs204 => ?_
  have hst205 := W.St.front [_, _] hst10
  refine nd_op (op_call (some 78) hs204 (by kernel_rfl) (by kernel_rfl) ((f24_ok hst205 h_x0 h_x1_1 hr).mono ?_))
  rintro _ w207 ⟨r206, I206_i0, hst210, rfl, hf206_0_0, hf206_i0, hr⟩
  revert hr; intro hr
  refine ⟨_, rfl, fun a208 hs209 => ?_⟩
  refine nd_q (c := 2) 1 [4, 5, 72, 78] hs209 [(4, .int .i64 (0 : Int)), (5, .pointer (some ⟨b8, 0, none⟩)), (72, .agg #[.int .i64 (0 : Int), .int .i64 (0 : Int), .string ByteArray.empty]), (78, .int .i64 r206.1)] (by kernel_rfl) fun a213 hs214 => ?_
  have hst215 := W.St.front [_] hst210
  obtain ⟨wq216, hxq216, hstq216⟩ := stq_run (P := Try.prog) (o := opAt (rops (sub [1, 1, 0] f15_c)) 8) (ρ := Env.rho hs214.env) (off := 0) (vs := [.int .i64 (0 : Int), .int .i64 (0 : Int), .string ByteArray.empty]) (by kernel_rfl) (by kernel_rfl) (Nat.le_of_ble_eq_true rfl) hst215 [.int .i64 (0 : Int), .int .i64 (0 : Int), .string ByteArray.empty] rfl
  refine nd_op (op_s none hs214 (by kernel_rfl) hxq216 fun a217 hs218 => ?_)
  refine nd_q (c := 0) 1 [4, 5, 6] hs218 [(4, .int .i64 (0 : Int)), (5, .pointer (some ⟨b8, 0, none⟩)), (6, .int .i64 r206.1)] (by kernel_rfl) fun a219 hs220 => ?_
  refine nd_done ?_
  have hv221 : (resultsF Try.f15 (Env.slot hs220.env a219)).run Try.prog wq216 = .ok (.tuple #[.int .i64 (0 : Int), .agg #[.int .i64 (0 : Int), .int .i64 (0 : Int), .string ByteArray.empty], .int .i64 r206.1]) wq216 := resF_run [.tmp 4, .cell 5 37, .tmp 6] [.int .i64 (0 : Int), .agg #[.int .i64 (0 : Int), .int .i64 (0 : Int), .string ByteArray.empty], .int .i64 r206.1] _ rfl ⟨rfl, ⟨_, rfl, loadVar_many (l := [.int .i64 (0 : Int), .int .i64 (0 : Int), .string ByteArray.empty]) 3 rfl (by kernel_rfl) (W.St.ocells [] hstq216)⟩, rfl, trivial⟩ rfl
  have hst222 := W.St.drop [] hstq216
  have hst223 := W.St.drop [_] hst222
  exact to_ret (v := .tuple #[.int .i64 (0 : Int), .agg #[.int .i64 (0 : Int), .int .i64 (0 : Int), .string ByteArray.empty], .int .i64 r206.1]) (by kernel_rfl) hbf Try.func15 hbk hs220 hv221 (hQ hr (Mem.le.refl _) hst223 (inr_of (by kernel_rfl)) (inr_of (by kernel_rfl)) (inr_of (by kernel_rfl)) empty_small hf206_0_0 hf206_i0)
/-! ### 28: (*salchow/salchowref50.Channel).put -/
noncomputable def f28_c : Code := codeOf Try.f28
def f28_post (z : Base) (m : Mem) (G : List Grp) (b_x0 : Nat) (Q : (Int × Int × S47) → Prop) : Ending → World → Prop := fun e w' => ∃ (r : (Int × Int × S47)) (I_i0 : Grp), W.St z w' m (I_i0 :: G) ∧ e = .returned (.tuple #[.int .i64 r.1, .int .i64 r.2.1]) ∧ InR .i64 r.1 ∧ InR .i64 r.2.1 ∧ OwnS47 m b_x0 I_i0 r.2.2 ∧ Q r
def f28_YR (z : Base) (m0 : Mem) (G : List Grp) (R : Ending → World → Prop) (b_x0 : Nat) (r : (Int × Int × S47)) : Prop := ∀ {m : Mem} {w : World} {I_i0 : Grp}, m0.le m → W.St z w m (I_i0 :: G) → (InR .i64 r.1) → (InR .i64 r.2.1) → (OwnS47 m b_x0 I_i0 r.2.2) →  R (.returned (.tuple #[.int .i64 r.1, .int .i64 r.2.1])) w
theorem f28_YR_mono {z : Base} {m0 m1 : Mem} {G : List Grp} {R : Ending → World → Prop} {b_x0 : Nat} {r : (Int × Int × S47)} (hm : m0.le m1) (h : f28_YR z m0 G R b_x0 r) : f28_YR z m1 G R b_x0 r := by
  intro m w I_i0 hm'
  exact h (hm.trans hm')
def f28  (x0 : S47) (x1 : S36) : M (Int × Int × S47) := fun Q => if (x0.f2.length : Int) ≥ (4096 : Int) then (Q ((0 : Int), (14 : Int), x0)) else (ofO (app 40 x0.f2 ([(⟨x0.f3.f0, (⟨x1.f0, x1.f1, x1.f2⟩ : S36)⟩ : S67)])) fun r68 => Q (x0.f3.f0, (0 : Int), (⟨x0.f0, x0.f1, r68, (⟨(w64 (x0.f3.f0 + (1 : Int))), x0.f3.f1, x0.f3.f2⟩ : S44)⟩ : S47)))
theorem f28_ok  {z : Base} {w : World} {m : Mem} {G : List Grp} {b_x0 : Nat} {I_x0 : Grp} {x0 : S47} {x1 : S36} {Q : (Int × Int × S47) → Prop} (hst : W.St z w m (I_x0 :: G)) (h_x0 : OwnS47 m b_x0 I_x0 x0) (h_x1_0 : InR .i64 x1.f0) (h_x1_1 : InR .i64 x1.f1) (h_x1_2 : x1.f2.size ≤ reach) (hr : f28  x0 x1 Q) : Calls Try.prog 28 #[.pointer (some ⟨b_x0, 0, none⟩), .agg #[.int .i64 x1.f0, .int .i64 x1.f1, .string x1.f2]] w (f28_post z m G b_x0 Q) := by
  refine calls_begin (c := f28_c) (n := 40) [.pointer (some ⟨b_x0, 0, none⟩), .agg #[.int .i64 x1.f0, .int .i64 x1.f1, .string x1.f2]] Try.func28 (by kernel_rfl) Try.ntmps28 (Nat.le_of_ble_eq_true rfl) fun b cs a0 hbf hbk hs0 => ?_
  have hm0 := Mem.le.refl m
  have hQ : ∀ {r : (Int × Int × S47)}, Q r → f28_YR z m G (f28_post z m G b_x0 Q) b_x0 r := by intro r hq m' w' I_i0 hm' hst' hf0_0 hf1_0 hf_i0; exact ⟨r, I_i0,  W.St.less hm' hst', rfl, hf0_0, hf1_0, (OwnS47.flat hf_i0), hq⟩
  unfold f28 at hr
  refine to_seq (sub [0] f28_c) (sub [1] f28_c) (by kernel_rfl) ?_
  refine to_nd 0 3 (rops (sub [0] f28_c)) (by kernel_rfl) (by kernel_rfl) ?_
  have hst3 := hst.alloc (.cells [.int .i64 x1.f0, .int .i64 x1.f1, .string x1.f2].toArray 37 (0, 0))
  refine nd_op (op_v (w' := w.alloc (.cells [.int .i64 x1.f0, .int .i64 x1.f1, .string x1.f2].toArray 37 (0, 0))) (some 3) (.pointer (some ⟨w.heap.size, 0, none⟩)) hs0 (by kernel_rfl) (by kernel_rfl) fun a4 hs5 => ?_)
  generalize w.heap.size = b1 at hst3 hs5
  generalize w.alloc (.cells [.int .i64 x1.f0, .int .i64 x1.f1, .string x1.f2].toArray 37 (0, 0)) = w2 at hst3 ⊢
  refine nd_q (c := 0) 2 [0, 3] hs5 [(0, .pointer (some ⟨b_x0, 0, none⟩)), (3, .pointer (some ⟨b1, 0, none⟩))] (by kernel_rfl) fun a6 hs7 => ?_
  refine nd_done ?_
  refine to_seq (sub [1, 0] f28_c) (sub [1, 1] f28_c) (by kernel_rfl) ?_
  refine to_seq (sub [1, 0, 0] f28_c) (sub [1, 0, 1] f28_c) (by kernel_rfl) ?_
  refine to_nd 1 6 (rops (sub [1, 0, 0] f28_c)) (by kernel_rfl) (by kernel_rfl) ?_
  refine nd_q (c := 3) 3 [0, 3, 9] hs7 [(0, .pointer (some ⟨b_x0, 0, none⟩)), (3, .pointer (some ⟨b1, 0, none⟩)), (9, .pointer (some ⟨b_x0, 2, none⟩))] (by kernel_rfl) fun a8 hs9 => ?_
  have hst10 := W.St.front [_] hst3
  obtain ⟨aq11_1, cq11_1, Iq11_1, aq11_2, cq11_2, Iq11_2, hI12, hfq11_0, hfq11_1, hfq11_2, hfq11_3, hfq11_4, hfq11_5⟩ := id h_x0
  have hst13 := hst10
  rw [hI12] at hst13
  have hst14 := hst13.split.split
  refine nd_v (i := 3) (c := 2) 10 (.slice aq11_2 x0.f2.length cq11_2) hs9 (by kernel_rfl) (ld1_run (P := Try.prog) (ad := ⟨b_x0, 2, none⟩) (by kernel_rfl) (W.St.ocell [] hst14 2 (Nat.le_of_ble_eq_true rfl))) fun a15 hs16 => ?_
  refine nd_q (c := 0) 2 [0, 3, 12] hs16 [(0, .pointer (some ⟨b_x0, 0, none⟩)), (3, .pointer (some ⟨b1, 0, none⟩)), (12, .bool (decide ((x0.f2.length : Int) ≥ (4096 : Int))))] (by kernel_rfl) fun a17 hs18 => ?_
  refine nd_done ?_
  by_cases hb19 : (x0.f2.length : Int) ≥ (4096 : Int)
  · rw [if_pos hb19] at hr
    rw [(decide_eq_true hb19)] at hs18
    refine to_then (.tmp 12) (sub [1, 0, 1, 0] f28_c) (sub [1, 0, 1, 1] f28_c) (by kernel_rfl) hs18 (by kernel_rfl) ?_
    refine to_seq (sub [1, 0, 1, 0, 0] f28_c) (sub [1, 0, 1, 0, 1] f28_c) (by kernel_rfl) ?_
    refine to_nd 2 2 (rops (sub [1, 0, 1, 0, 0] f28_c)) (by kernel_rfl) (by kernel_rfl) ?_
    refine nd_q (c := 0) 2 [4, 5] hs18 [(4, .int .i64 (0 : Int)), (5, .int .i64 (14 : Int))] (by kernel_rfl) fun a20 hs21 => ?_
    refine nd_done ?_
    have hst22 := W.St.front [_, _] hst14
    have hst23 := W.St.front [_, _] hst22
    have hst24 := W.St.front [_, _] hst23
    have hst25 := hst24.join.join
    rw [← hI12] at hst25
    have hst26 := W.St.drop [_] hst25
    exact to_ret (v := .tuple #[.int .i64 (0 : Int), .int .i64 (14 : Int)]) (by kernel_rfl) hbf Try.func28 hbk hs21 (by kernel_rfl) (hQ hr (Mem.le.refl _) hst26 (inr_of (by kernel_rfl)) (inr_of (by kernel_rfl)) h_x0)
  rw [if_neg hb19] at hr
  rw [(decide_eq_false hb19)] at hs18
  refine to_else (.tmp 12) (sub [1, 0, 1, 0] f28_c) (sub [1, 0, 1, 1] f28_c) (by kernel_rfl) hs18 (by kernel_rfl) ?_
  refine to_skip (by kernel_rfl) ?_
  refine to_seq (sub [1, 1, 0] f28_c) (sub [1, 1, 1] f28_c) (by kernel_rfl) ?_
  refine to_nd 3 6 (rops (sub [1, 1, 0] f28_c)) (by kernel_rfl) (by kernel_rfl) ?_
  refine nd_q (c := 2) 4 [0, 3, 16] hs18 [(0, .pointer (some ⟨b_x0, 0, none⟩)), (3, .pointer (some ⟨b1, 0, none⟩)), (16, .pointer (some ⟨b_x0, 3, none⟩))] (by kernel_rfl) fun a27 hs28 => ?_
  refine nd_v (i := 4) (c := 1) 17 (.int .i64 x0.f3.f0) hs28 (by kernel_rfl) (ld1_run (P := Try.prog) (ad := ⟨b_x0, 3, none⟩) (by kernel_rfl) (W.St.ocell [] hst14 3 (Nat.le_of_ble_eq_true rfl))) fun a29 hs30 => ?_
  refine nd_q (c := 0) 1 [0, 3, 6] hs30 [(0, .pointer (some ⟨b_x0, 0, none⟩)), (3, .pointer (some ⟨b1, 0, none⟩)), (6, .int .i64 x0.f3.f0)] (by kernel_rfl) fun a31 hs32 => ?_
  refine nd_done ?_
  refine to_seq (sub [1, 1, 1, 0] f28_c) (sub [1, 1, 1, 1] f28_c) (by kernel_rfl) ?_
  have hs33 := hs32.kept [0, 3, 6] [(0, .pointer (some ⟨b_x0, 0, none⟩)), (3, .pointer (some ⟨b1, 0, none⟩)), (6, .int .i64 x0.f3.f0)] (by kernel_rfl)
  refine to_dr 4 13 (rops (sub [1, 1, 1, 0] f28_c)) (by kernel_rfl) (by kernel_rfl) (by kernel_rfl) [9] (fun w => Go.Proofs.Ytcnlbnccghjeaaa.W.St z w m G) (fun _ w => Go.Proofs.Ytcnlbnccghjeaaa.W.St z w m ([(b_x0, .cells [.int .i64 x0.f0, .slice aq11_1 x0.f1.length cq11_1, .slice aq11_2 x0.f2.length cq11_2, .int .i64 x0.f3.f0, .int .i64 x0.f3.f1, .int .i64 x0.f3.f2].toArray 48 (0, 0))] :: Iq11_1 :: Iq11_2 :: [(b1, .cells [.int .i64 x1.f0, .int .i64 x1.f1, .string x1.f2].toArray 37 (0, 0))] :: G)) fun hd34 => ?_
  have hst36 := hst14.drawn (w2.drawn + 1)
  generalize hw37 : ({ w2 with drawn := w2.drawn + 1 } : World) = w35 at hst36 ⊢
  clear hw37
  refine dr_q (fuel := 9) [0, 1, 2, 3] [0, 3, 6, 18, 21] [] hs33 hd34 ⟨hst36.drop1.drop1.drop1.drop1, fun _ _ _ => hst36⟩ (by kernel_rfl) (by kernel_rfl) ([(21, .pointer (some ⟨b_x0, 2, none⟩)), (20, .pointer (some ⟨b_x0, 0, none⟩)), (19, .pointer (some ⟨b_x0, 0, none⟩)), (18, .pointer (some ⟨b_x0, 0, none⟩))] ++ [(0, .pointer (some ⟨b_x0, 0, none⟩)), (3, .pointer (some ⟨b1, 0, none⟩)), (6, .int .i64 x0.f3.f0)]) [(0, .pointer (some ⟨b_x0, 0, none⟩)), (3, .pointer (some ⟨b1, 0, none⟩)), (6, .int .i64 x0.f3.f0), (18, .pointer (some ⟨b_x0, 0, none⟩)), (21, .pointer (some ⟨b_x0, 2, none⟩))] (by kernel_rfl) (by kernel_rfl) (fun _ hx => by cases hx) (fun w hT _ => by kernel_rfl) fun a38 hs39 hd40 hS41 => ?_
  refine dr_vp (fuel := 8) 4 22 (.slice aq11_2 x0.f2.length cq11_2) [9] hs39 hd40 ⟨hst36.drop1.drop1.drop1.drop1, fun _ _ _ => hst36⟩ (by kernel_rfl) (by kernel_rfl) (by kernel_rfl) (fun _ _ => hst36) (by kernel_rfl) (fun w hT hF => ld1_run (P := Try.prog) (ad := ⟨b_x0, 2, none⟩) (by kernel_rfl) (W.St.ocell [] (hF 9 (by simp)) 2 (Nat.le_of_ble_eq_true rfl))) fun a43 hs44 hd42 hS45 => ?_
  refine dr_q (fuel := 7) [5] [0, 3, 6, 18, 22, 23] [] hs44 hd42 ⟨hst36.drop1.drop1.drop1.drop1, fun _ _ _ => hst36⟩ (by kernel_rfl) (by kernel_rfl) ([(23, .int .i64 x0.f3.f0)] ++ ((22, .slice aq11_2 x0.f2.length cq11_2) :: [(0, .pointer (some ⟨b_x0, 0, none⟩)), (3, .pointer (some ⟨b1, 0, none⟩)), (6, .int .i64 x0.f3.f0), (18, .pointer (some ⟨b_x0, 0, none⟩)), (21, .pointer (some ⟨b_x0, 2, none⟩))])) [(0, .pointer (some ⟨b_x0, 0, none⟩)), (3, .pointer (some ⟨b1, 0, none⟩)), (6, .int .i64 x0.f3.f0), (18, .pointer (some ⟨b_x0, 0, none⟩)), (22, .slice aq11_2 x0.f2.length cq11_2), (23, .int .i64 x0.f3.f0)] (by kernel_rfl) (by kernel_rfl) (fun _ hx => by cases hx) (fun w hT _ => by kernel_rfl) fun a46 hs47 hd48 hS49 => ?_
  refine dr_vp (fuel := 6) 6 24 (.agg #[.int .i64 x1.f0, .int .i64 x1.f1, .string x1.f2]) [9, 8, 7] hs47 hd48 ⟨hst36.drop1.drop1.drop1.drop1, fun _ _ _ => hst36⟩ (by kernel_rfl) (by kernel_rfl) (by kernel_rfl) (fun _ _ => hst36) (by kernel_rfl) (fun w hT hF => ldN_run (P := Try.prog) (ad := ⟨b1, 0, none⟩) (l := [.int .i64 x1.f0, .int .i64 x1.f1, .string x1.f2]) 3 rfl (by kernel_rfl) (W.St.ocells [_, _, _] (hF 9 (by simp)))) fun a51 hs52 hd50 hS53 => ?_
  refine dr_q (fuel := 5) [7] [0, 6, 18, 22, 25] [] hs52 hd50 ⟨hst36.drop1.drop1.drop1.drop1, fun _ _ _ => hst36⟩ (by kernel_rfl) (by kernel_rfl) ([(25, .agg #[.int .i64 x0.f3.f0, .int .i64 x1.f0, .int .i64 x1.f1, .string x1.f2])] ++ ((24, .agg #[.int .i64 x1.f0, .int .i64 x1.f1, .string x1.f2]) :: [(0, .pointer (some ⟨b_x0, 0, none⟩)), (3, .pointer (some ⟨b1, 0, none⟩)), (6, .int .i64 x0.f3.f0), (18, .pointer (some ⟨b_x0, 0, none⟩)), (22, .slice aq11_2 x0.f2.length cq11_2), (23, .int .i64 x0.f3.f0)])) [(0, .pointer (some ⟨b_x0, 0, none⟩)), (6, .int .i64 x0.f3.f0), (18, .pointer (some ⟨b_x0, 0, none⟩)), (22, .slice aq11_2 x0.f2.length cq11_2), (25, .agg #[.int .i64 x0.f3.f0, .int .i64 x1.f0, .int .i64 x1.f1, .string x1.f2])] (by kernel_rfl) (by kernel_rfl) (fun _ hx => by cases hx) (fun w hT _ => by kernel_rfl) fun a54 hs55 hd56 hS57 => ?_
  have ho65 : OwnSl k67 40 68 m (some ⟨w35.heap.size, 0, none⟩) 1 [(w35.heap.size, .cells ([.int .i64 x0.f3.f0, .int .i64 x1.f0, .int .i64 x1.f1, .string x1.f2]).toArray 68 (0, 0))] [(⟨x0.f3.f0, (⟨x1.f0, x1.f1, x1.f2⟩ : S36)⟩ : S67)] := own_row (n := 1) (RepL.cons (l := [.int .i64 x0.f3.f0, .int .i64 x1.f0, .int .i64 x1.f1, .string x1.f2]) rfl (k67_mk hfq11_3 h_x1_0 h_x1_1 h_x1_2) RepL.nil) rfl (Nat.le_of_ble_eq_true rfl) (Nat.le_of_ble_eq_true rfl)
  have hst61 := hst36.alloc (.cells [.int .i64 x0.f3.f0, .int .i64 x1.f0, .int .i64 x1.f1, .string x1.f2].toArray 68 (0, 0))
  refine dr_op (i := 8) hd56 (by kernel_rfl) fun hd58 => op_v (w' := w35.alloc (.cells [.int .i64 x0.f3.f0, .int .i64 x1.f0, .int .i64 x1.f1, .string x1.f2].toArray 68 (0, 0))) (some 26) (.slice (some ⟨w35.heap.size, 0, none⟩) 1 1) hs55 (by kernel_rfl) (by kernel_rfl) fun a62 hs63 => ?_
  generalize w35.heap.size = b59 at hst61 hs63 ho65
  generalize w35.alloc (.cells [.int .i64 x0.f3.f0, .int .i64 x1.f0, .int .i64 x1.f1, .string x1.f2].toArray 68 (0, 0)) = w60 at hst61 ⊢
  refine ⟨SE_miss hst61.drop1.drop1.drop1.drop1.drop1 (W.St.drop [] hst61), reset_same (T' := (fun w => Go.Proofs.Ytcnlbnccghjeaaa.W.St z w m G)) (F' := (fun _ w => Go.Proofs.Ytcnlbnccghjeaaa.W.St z w m ([(b59, .cells [.int .i64 x0.f3.f0, .int .i64 x1.f0, .int .i64 x1.f1, .string x1.f2].toArray 68 (0, 0))] :: [(b_x0, .cells [.int .i64 x0.f0, .slice aq11_1 x0.f1.length cq11_1, .slice aq11_2 x0.f2.length cq11_2, .int .i64 x0.f3.f0, .int .i64 x0.f3.f1, .int .i64 x0.f3.f2].toArray 48 (0, 0))] :: Iq11_1 :: Iq11_2 :: [(b1, .cells [.int .i64 x1.f0, .int .i64 x1.f1, .string x1.f2].toArray 37 (0, 0))] :: G))) (fun w hT => ?_) (fun w hT => ?_) ?_⟩
  · exact hT
  · exact (W.St.drop [] hT)
  have hs66 := hs63.kept [0, 6, 18, 22, 25, 26] [(0, .pointer (some ⟨b_x0, 0, none⟩)), (6, .int .i64 x0.f3.f0), (18, .pointer (some ⟨b_x0, 0, none⟩)), (22, .slice aq11_2 x0.f2.length cq11_2), (25, .agg #[.int .i64 x0.f3.f0, .int .i64 x1.f0, .int .i64 x1.f1, .string x1.f2]), (26, .slice (some ⟨b59, 0, none⟩) 1 1)] (by kernel_rfl)
  obtain ⟨r68, hcq69, hr⟩ := ofO_el hr
  have hst70 := W.St.front [_, _, _] hst61
  obtain ⟨aq69, cq69, Iq69, wq69, hxq69, hstq69, hoq69⟩ := own_append (P := Try.prog) (o := opAt (rops (sub [1, 1, 1, 0] f28_c)) 9) (ρ := Env.rho hs66.env) (c := 1) (news := [.int .i64 x0.f3.f0, .int .i64 x1.f0, .int .i64 x1.f1, .string x1.f2]) (by kernel_rfl) hst70 hfq11_2 (RepL.cons (l := [.int .i64 x0.f3.f0, .int .i64 x1.f0, .int .i64 x1.f1, .string x1.f2]) rfl (k67_mk hfq11_3 h_x1_0 h_x1_1 h_x1_2) RepL.nil) (row_cells [_] hst70) (by kernel_rfl) (Nat.le_of_ble_eq_true rfl) hcq69
  refine dr_op (i := 9) hd58 (by kernel_rfl) fun hd67 => op_v (some 27) (.slice aq69 r68.length cq69) hs66 (by kernel_rfl) hxq69 fun a71 hs72 => ?_
  refine ⟨SE_hit hstq69.drop1.drop1.drop1.drop1.drop1 rfl, reset_hit (es' := [12]) (T' := (fun w => Go.Proofs.Ytcnlbnccghjeaaa.W.St z w m G)) (F' := (fun _ w => Go.Proofs.Ytcnlbnccghjeaaa.W.St z w m (Iq69 :: [(b59, .cells [.int .i64 x0.f3.f0, .int .i64 x1.f0, .int .i64 x1.f1, .string x1.f2].toArray 68 (0, 0))] :: [(b_x0, .cells [.int .i64 x0.f0, .slice aq11_1 x0.f1.length cq11_1, .slice aq11_2 x0.f2.length cq11_2, .int .i64 x0.f3.f0, .int .i64 x0.f3.f1, .int .i64 x0.f3.f2].toArray 48 (0, 0))] :: Iq11_1 :: [(b1, .cells [.int .i64 x1.f0, .int .i64 x1.f1, .string x1.f2].toArray 37 (0, 0))] :: G))) rfl (fun w hT => ?_) ?_⟩
  · exact hT
  have hs73 := hs72.kept [0, 6, 18, 25, 26, 27] [(0, .pointer (some ⟨b_x0, 0, none⟩)), (6, .int .i64 x0.f3.f0), (18, .pointer (some ⟨b_x0, 0, none⟩)), (25, .agg #[.int .i64 x0.f3.f0, .int .i64 x1.f0, .int .i64 x1.f1, .string x1.f2]), (26, .slice (some ⟨b59, 0, none⟩) 1 1), (27, .slice aq69 r68.length cq69)] (by kernel_rfl)
  refine dr_q (fuel := 1) [10, 11] [0, 6, 27, 29] [] hs73 hd67 ⟨hstq69.drop1.drop1.drop1.drop1.drop1, fun _ _ _ => hstq69⟩ (by kernel_rfl) (by kernel_rfl) ([(29, .pointer (some ⟨b_x0, 2, none⟩)), (28, .pointer (some ⟨b_x0, 0, none⟩))] ++ [(0, .pointer (some ⟨b_x0, 0, none⟩)), (6, .int .i64 x0.f3.f0), (18, .pointer (some ⟨b_x0, 0, none⟩)), (25, .agg #[.int .i64 x0.f3.f0, .int .i64 x1.f0, .int .i64 x1.f1, .string x1.f2]), (26, .slice (some ⟨b59, 0, none⟩) 1 1), (27, .slice aq69 r68.length cq69)]) [(0, .pointer (some ⟨b_x0, 0, none⟩)), (6, .int .i64 x0.f3.f0), (27, .slice aq69 r68.length cq69), (29, .pointer (some ⟨b_x0, 2, none⟩))] (by kernel_rfl) (by kernel_rfl) (fun _ hx => by cases hx) (fun w hT _ => by kernel_rfl) fun a74 hs75 hd76 hS77 => ?_
  have hst79 := W.St.front [_, _] hstq69
  obtain ⟨wq80, hxq80, hstq80⟩ := stq_run (P := Try.prog) (o := opAt (rops (sub [1, 1, 1, 0] f28_c)) 12) (ρ := Env.rho hs75.env) (off := 2) (vs := [.slice aq69 r68.length cq69]) (by kernel_rfl) (by kernel_rfl) (Nat.le_of_ble_eq_true rfl) hst79 [.int .i64 x0.f0, .slice aq11_1 x0.f1.length cq11_1, .slice aq69 r68.length cq69, .int .i64 x0.f3.f0, .int .i64 x0.f3.f1, .int .i64 x0.f3.f2] rfl
  refine dr_op (i := 12) hd76 (by kernel_rfl) fun hd78 => op_s none hs75 (by kernel_rfl) hxq80 fun a81 hs82 => ?_
  refine ⟨SE_hit hstq80.drop1.drop1.drop1.drop1.drop1 rfl, reset_hit (es' := []) (T' := (fun w => Go.Proofs.Ytcnlbnccghjeaaa.W.St z w m ([(b_x0, .cells [.int .i64 x0.f0, .slice aq11_1 x0.f1.length cq11_1, .slice aq69 r68.length cq69, .int .i64 x0.f3.f0, .int .i64 x0.f3.f1, .int .i64 x0.f3.f2].toArray 48 (0, 0))] :: Iq69 :: [(b59, .cells [.int .i64 x0.f3.f0, .int .i64 x1.f0, .int .i64 x1.f1, .string x1.f2].toArray 68 (0, 0))] :: Iq11_1 :: [(b1, .cells [.int .i64 x1.f0, .int .i64 x1.f1, .string x1.f2].toArray 37 (0, 0))] :: G))) (F' := (fun _ _ => True)) rfl (fun w hT => ?_) ?_⟩
  · exact hT.drop1.drop1.drop1.drop1.drop1
  have hs83 := hs82.kept [0, 6, 27, 29] [(0, .pointer (some ⟨b_x0, 0, none⟩)), (6, .int .i64 x0.f3.f0), (27, .slice aq69 r68.length cq69), (29, .pointer (some ⟨b_x0, 2, none⟩))] (by kernel_rfl)
  refine dr_done (by kernel_rfl) ?_
  refine to_seq (sub [1, 1, 1, 1, 0] f28_c) (sub [1, 1, 1, 1, 1] f28_c) (by kernel_rfl) ?_
  have hs84 := hs83.kept [0, 6] [(0, .pointer (some ⟨b_x0, 0, none⟩)), (6, .int .i64 x0.f3.f0)] (by kernel_rfl)
  refine to_dr 5 10 (rops (sub [1, 1, 1, 1, 0] f28_c)) (by kernel_rfl) (by kernel_rfl) (by kernel_rfl) [9] (fun w => Go.Proofs.Ytcnlbnccghjeaaa.W.St z w m G) (fun _ w => Go.Proofs.Ytcnlbnccghjeaaa.W.St z w m ([(b_x0, .cells [.int .i64 x0.f0, .slice aq11_1 x0.f1.length cq11_1, .slice aq69 r68.length cq69, .int .i64 x0.f3.f0, .int .i64 x0.f3.f1, .int .i64 x0.f3.f2].toArray 48 (0, 0))] :: Iq69 :: [(b59, .cells [.int .i64 x0.f3.f0, .int .i64 x1.f0, .int .i64 x1.f1, .string x1.f2].toArray 68 (0, 0))] :: Iq11_1 :: [(b1, .cells [.int .i64 x1.f0, .int .i64 x1.f1, .string x1.f2].toArray 37 (0, 0))] :: G)) fun hd85 => ?_
  have hst87 := hstq80.drawn (wq80.drawn + 1)
  generalize hw88 : ({ wq80 with drawn := wq80.drawn + 1 } : World) = w86 at hst87 ⊢
  clear hw88
  refine dr_q (fuel := 6) [0, 1, 2, 3] [6, 30, 33] [] hs84 hd85 ⟨hst87.drop1.drop1.drop1.drop1.drop1, fun _ _ _ => hst87⟩ (by kernel_rfl) (by kernel_rfl) ([(33, .pointer (some ⟨b_x0, 3, none⟩)), (32, .pointer (some ⟨b_x0, 3, none⟩)), (31, .pointer (some ⟨b_x0, 0, none⟩)), (30, .pointer (some ⟨b_x0, 0, none⟩))] ++ [(0, .pointer (some ⟨b_x0, 0, none⟩)), (6, .int .i64 x0.f3.f0)]) [(6, .int .i64 x0.f3.f0), (30, .pointer (some ⟨b_x0, 0, none⟩)), (33, .pointer (some ⟨b_x0, 3, none⟩))] (by kernel_rfl) (by kernel_rfl) (fun _ hx => by cases hx) (fun w hT _ => by kernel_rfl) fun a89 hs90 hd91 hS92 => ?_
  refine dr_vp (fuel := 5) 4 34 (.int .i64 x0.f3.f0) [9] hs90 hd91 ⟨hst87.drop1.drop1.drop1.drop1.drop1, fun _ _ _ => hst87⟩ (by kernel_rfl) (by kernel_rfl) (by kernel_rfl) (fun _ _ => hst87) (by kernel_rfl) (fun w hT hF => ld1_run (P := Try.prog) (ad := ⟨b_x0, 3, none⟩) (by kernel_rfl) (W.St.ocell [] (hF 9 (by simp)) 3 (Nat.le_of_ble_eq_true rfl))) fun a94 hs95 hd93 hS96 => ?_
  refine dr_q (fuel := 1) [5, 6, 7, 8] [6, 35, 38] [] hs95 hd93 ⟨hst87.drop1.drop1.drop1.drop1.drop1, fun _ _ _ => hst87⟩ (by kernel_rfl) (by kernel_rfl) ([(38, .pointer (some ⟨b_x0, 3, none⟩)), (37, .pointer (some ⟨b_x0, 3, none⟩)), (36, .pointer (some ⟨b_x0, 0, none⟩)), (35, .int .i64 (w64 (x0.f3.f0 + (1 : Int))))] ++ ((34, .int .i64 x0.f3.f0) :: [(6, .int .i64 x0.f3.f0), (30, .pointer (some ⟨b_x0, 0, none⟩)), (33, .pointer (some ⟨b_x0, 3, none⟩))])) [(6, .int .i64 x0.f3.f0), (35, .int .i64 (w64 (x0.f3.f0 + (1 : Int)))), (38, .pointer (some ⟨b_x0, 3, none⟩))] (by kernel_rfl) (by kernel_rfl) (fun _ hx => by cases hx) (fun w hT _ => by kernel_rfl) fun a97 hs98 hd99 hS100 => ?_
  obtain ⟨wq102, hxq102, hstq102⟩ := stq_run (P := Try.prog) (o := opAt (rops (sub [1, 1, 1, 1, 0] f28_c)) 9) (ρ := Env.rho hs98.env) (off := 3) (vs := [.int .i64 (w64 (x0.f3.f0 + (1 : Int)))]) (by kernel_rfl) (by kernel_rfl) (Nat.le_of_ble_eq_true rfl) hst87 [.int .i64 x0.f0, .slice aq11_1 x0.f1.length cq11_1, .slice aq69 r68.length cq69, .int .i64 (w64 (x0.f3.f0 + (1 : Int))), .int .i64 x0.f3.f1, .int .i64 x0.f3.f2] rfl
  refine dr_op (i := 9) hd99 (by kernel_rfl) fun hd101 => op_s none hs98 (by kernel_rfl) hxq102 fun a103 hs104 => ?_
  refine ⟨SE_hit hstq102.drop1.drop1.drop1.drop1.drop1 rfl, reset_hit (es' := []) (T' := (fun w => Go.Proofs.Ytcnlbnccghjeaaa.W.St z w m ([(b_x0, .cells [.int .i64 x0.f0, .slice aq11_1 x0.f1.length cq11_1, .slice aq69 r68.length cq69, .int .i64 (w64 (x0.f3.f0 + (1 : Int))), .int .i64 x0.f3.f1, .int .i64 x0.f3.f2].toArray 48 (0, 0))] :: Iq69 :: [(b59, .cells [.int .i64 x0.f3.f0, .int .i64 x1.f0, .int .i64 x1.f1, .string x1.f2].toArray 68 (0, 0))] :: Iq11_1 :: [(b1, .cells [.int .i64 x1.f0, .int .i64 x1.f1, .string x1.f2].toArray 37 (0, 0))] :: G))) (F' := (fun _ _ => True)) rfl (fun w hT => ?_) ?_⟩
  · exact hT.drop1.drop1.drop1.drop1.drop1
  have hs105 := hs104.kept [6, 35, 38] [(6, .int .i64 x0.f3.f0), (35, .int .i64 (w64 (x0.f3.f0 + (1 : Int)))), (38, .pointer (some ⟨b_x0, 3, none⟩))] (by kernel_rfl)
  refine dr_done (by kernel_rfl) ?_
  refine to_seq (sub [1, 1, 1, 1, 1, 0] f28_c) (sub [1, 1, 1, 1, 1, 1] f28_c) (by kernel_rfl) ?_
  refine to_nd 6 3 (rops (sub [1, 1, 1, 1, 1, 0] f28_c)) (by kernel_rfl) (by kernel_rfl) ?_
  refine nd_q (c := 0) 3 [4, 5] hs105 [(4, .int .i64 x0.f3.f0), (5, .int .i64 (0 : Int))] (by kernel_rfl) fun a106 hs107 => ?_
  refine nd_done ?_
  have hst108 := W.St.front [_] hstq102
  have hst109 := W.St.front [_, _, _] hst108
  have hst110 := W.St.front [_, _] hst109
  have hst111 := hst110.join.join
  have ho112 : OwnS47 m b_x0 ((([(b_x0, .cells [.int .i64 x0.f0, .slice aq11_1 x0.f1.length cq11_1, .slice aq69 r68.length cq69, .int .i64 (w64 (x0.f3.f0 + (1 : Int))), .int .i64 x0.f3.f1, .int .i64 x0.f3.f2].toArray 48 (0, 0))] ++ Iq11_1) ++ Iq69)) (⟨x0.f0, x0.f1, r68, (⟨(w64 (x0.f3.f0 + (1 : Int))), x0.f3.f1, x0.f3.f2⟩ : S44)⟩ : S47) := ⟨aq11_1, cq11_1, Iq11_1, aq69, cq69, Iq69, rfl, hfq11_0, hfq11_1, hoq69, (wrap_in .i64 _), hfq11_4, hfq11_5⟩
  generalize (([(b_x0, .cells [.int .i64 x0.f0, .slice aq11_1 x0.f1.length cq11_1, .slice aq69 r68.length cq69, .int .i64 (w64 (x0.f3.f0 + (1 : Int))), .int .i64 x0.f3.f1, .int .i64 x0.f3.f2].toArray 48 (0, 0))] ++ Iq11_1) ++ Iq69) = I113 at ho112 hst111
  have hst114 := W.St.drop [_] hst111
  have hst115 := W.St.drop [_] hst114
  exact to_ret (v := .tuple #[.int .i64 x0.f3.f0, .int .i64 (0 : Int)]) (by kernel_rfl) hbf Try.func28 hbk hs107 (by kernel_rfl) (hQ hr (Mem.le.refl _) hst115 hfq11_3 (inr_of (by kernel_rfl)) ho112)
/-! ### 29: (*salchow/salchowref50.Channel).find -/
noncomputable def f29_c : Code := codeOf Try.f29
def f29_post (z : Base) (m : Mem) (G : List Grp)  (Q : Int → Prop) : Ending → World → Prop := fun e w' => ∃ (r : Int) , W.St z w' m (G) ∧ e = .returned (.int .i64 r) ∧ InR .i64 r ∧ Q r
def f29_YR (z : Base) (m0 : Mem) (G : List Grp) (R : Ending → World → Prop)  (r : Int) : Prop := ∀ {m : Mem} {w : World} , m0.le m → W.St z w m (G) → (InR .i64 r) →  R (.returned (.int .i64 r)) w
theorem f29_YR_mono {z : Base} {m0 m1 : Mem} {G : List Grp} {R : Ending → World → Prop}  {r : Int} (hm : m0.le m1) (h : f29_YR z m0 G R  r) : f29_YR z m1 G R  r := by
  intro m w  hm'
  exact h (hm.trans hm')
def f29_l1_Y (z : Base) (m0 : Mem) (G : List Grp) (b : Frame) (cs : List Frame) (R : Ending → World → Prop) (ad_c'0 : Addr) (a_c'0_1 : Option Addr) (c_c'0_1 : Nat) (a_c'0_2 : Option Addr) (c_c'0_2 : Nat) (c'0 : S47) (number'1 : Int) (i'5 : Int) : Prop := ∀ {m : Mem} {w : World} {a : Act} , m0.le m → W.St z w m (G) → Has 26 a [(0, .pointer (some ad_c'0)), (1, .int .i64 number'1), (5, .int .i64 i'5)] → (InR .i64 i'5) → Reach Try.prog b cs R [.code (sub [1, 0, 1, 0, 0] f29_c), .inLoop (sub [1, 0, 1, 0, 0] f29_c), .inBlock 0, .code (sub [1, 1] f29_c)] a w
def f29_l1_Yk1 (z : Base) (m0 : Mem) (G : List Grp) (b : Frame) (cs : List Frame) (R : Ending → World → Prop) (ad_c'0 : Addr) (a_c'0_1 : Option Addr) (c_c'0_1 : Nat) (a_c'0_2 : Option Addr) (c_c'0_2 : Nat) (c'0 : S47) (number'1 : Int)  : Prop := ∀ {m : Mem} {w : World} {a : Act} , m0.le m → W.St z w m (G) → Has 26 a [] →  Reach Try.prog b cs R [.code (sub [1, 1] f29_c)] a w
def f29_l1_b (c'0 : S47) (number'1 : Int) (k1 : Prop) (Q : Int → Prop) (X : Int → Prop) (i'5 : Int) : Prop := if i'5 < (c'0.f2.length : Int) then (ofO (ix c'0.f2 i'5) fun x14 => if x14.f0 = number'1 then (Q i'5) else (X (w64 (i'5 + (1 : Int))))) else (k1)
def f29_l1 (c'0 : S47) (number'1 : Int) (k1 : Prop) (Q : Int → Prop) (i'5 : Int) : Prop := ∀ X : Int → Prop, (∀ {i'5 : Int}, f29_l1_b c'0 number'1 k1 Q X i'5 → X i'5) → X i'5
theorem f29_l1_ok {z : Base} {m0 : Mem} {G : List Grp} {b : Frame} {cs : List Frame} {R : Ending → World → Prop} {ad_c'0 : Addr} {a_c'0_1 : Option Addr} {c_c'0_1 : Nat} {a_c'0_2 : Option Addr} {c_c'0_2 : Nat} {c'0 : S47} {number'1 : Int} {k1 : Prop} {Q : Int → Prop}  (hbf : b.fn = 29) (hbk : b.kind = .normal) (hA_c'0 : At m0 ad_c'0 6 (cells [.int .i64 c'0.f0, .slice a_c'0_1 c'0.f1.length c_c'0_1, .slice a_c'0_2 c'0.f2.length c_c'0_2, .int .i64 c'0.f3.f0, .int .i64 c'0.f3.f1, .int .i64 c'0.f3.f2])) (h_c'0_0 : InR .i64 c'0.f0) (h_c'0_1 : Sl kBool 1 m0 a_c'0_1 c_c'0_1 c'0.f1) (h_c'0_2 : Sl k67 40 m0 a_c'0_2 c_c'0_2 c'0.f2) (h_c'0_3 : InR .i64 c'0.f3.f0) (h_c'0_4 : InR .i64 c'0.f3.f1) (h_c'0_5 : InR .i64 c'0.f3.f2) (h_number'1 : InR .i64 number'1)  (hk1 : ∀ (_u : Unit), k1  → f29_l1_Yk1 z m0 G b cs R ad_c'0 a_c'0_1 c_c'0_1 a_c'0_2 c_c'0_2 c'0 number'1 ) (hQ : ∀ {r : Int}, Q r → f29_YR z m0 G R  r) : ∀ {i'5 : Int}, f29_l1 c'0 number'1 k1 Q i'5 → f29_l1_Y z m0 G b cs R ad_c'0 a_c'0_1 c_c'0_1 a_c'0_2 c_c'0_2 c'0 number'1 i'5 := by
  intro i'5 hr
  refine hr (f29_l1_Y z m0 G b cs R ad_c'0 a_c'0_1 c_c'0_1 a_c'0_2 c_c'0_2 c'0 number'1) ?_
  intro i'5 hr m w a0  hm0 hst hs0 h_i'5
  have hX : ∀ {i'5 : Int}, f29_l1_Y z m0 G b cs R ad_c'0 a_c'0_1 c_c'0_1 a_c'0_2 c_c'0_2 c'0 number'1 i'5 → f29_l1_Y z m0 G b cs R ad_c'0 a_c'0_1 c_c'0_1 a_c'0_2 c_c'0_2 c'0 number'1 i'5 := fun h => h
  unfold f29_l1_b at hr
  refine to_seq (sub [1, 0, 1, 0, 0, 0] f29_c) (sub [1, 0, 1, 0, 0, 1] f29_c) (by kernel_rfl) ?_
  refine to_seq (sub [1, 0, 1, 0, 0, 0, 0] f29_c) (sub [1, 0, 1, 0, 0, 0, 1] f29_c) (by kernel_rfl) ?_
  refine to_nd 2 7 (rops (sub [1, 0, 1, 0, 0, 0, 0] f29_c)) (by kernel_rfl) (by kernel_rfl) ?_
  refine nd_q (c := 3) 4 [0, 1, 5, 6, 9] hs0 [(0, .pointer (some ad_c'0)), (1, .int .i64 number'1), (5, .int .i64 i'5), (6, .int .i64 i'5), (9, .pointer (some ⟨ad_c'0.block, ad_c'0.off + 2, none⟩))] (by kernel_rfl) fun a1 hs2 => ?_
  refine nd_v (i := 4) (c := 2) 10 (.slice a_c'0_2 c'0.f2.length c_c'0_2) hs2 (by kernel_rfl) (ld1_run (P := Try.prog) (ad := ⟨ad_c'0.block, ad_c'0.off + 2, none⟩) (by kernel_rfl) ((hA_c'0.mono hm0).cell hst (j := 2) (Nat.le_of_ble_eq_true rfl))) fun a3 hs4 => ?_
  refine nd_q (c := 0) 2 [0, 1, 5, 12] hs4 [(0, .pointer (some ad_c'0)), (1, .int .i64 number'1), (5, .int .i64 i'5), (12, .bool (decide (i'5 < (c'0.f2.length : Int))))] (by kernel_rfl) fun a5 hs6 => ?_
  refine nd_done ?_
  by_cases hb7 : i'5 < (c'0.f2.length : Int)
  rotate_left
  · rw [if_neg hb7] at hr
    rw [(decide_eq_false hb7)] at hs6
    refine to_else (.tmp 12) (sub [1, 0, 1, 0, 0, 0, 1, 0] f29_c) (sub [1, 0, 1, 0, 0, 0, 1, 1] f29_c) (by kernel_rfl) hs6 (by kernel_rfl) ?_
    refine to_exit 0 (by kernel_rfl) [.code (sub [1, 1] f29_c)] rfl ?_
    have hs29 := hs6.kept [] [] (by kernel_rfl)
    exact hk1 () hr hm0 hst hs29 
  rw [if_pos hb7] at hr
  rw [(decide_eq_true hb7)] at hs6
  refine to_then (.tmp 12) (sub [1, 0, 1, 0, 0, 0, 1, 0] f29_c) (sub [1, 0, 1, 0, 0, 0, 1, 1] f29_c) (by kernel_rfl) hs6 (by kernel_rfl) ?_
  refine to_skip (by kernel_rfl) ?_
  refine to_seq (sub [1, 0, 1, 0, 0, 1, 0] f29_c) (sub [1, 0, 1, 0, 0, 1, 1] f29_c) (by kernel_rfl) ?_
  refine to_block 1 (sub [1, 0, 1, 0, 0, 1, 0, 0] f29_c) (by kernel_rfl) ?_
  refine to_seq (sub [1, 0, 1, 0, 0, 1, 0, 0, 0] f29_c) (sub [1, 0, 1, 0, 0, 1, 0, 0, 1] f29_c) (by kernel_rfl) ?_
  refine to_nd 4 10 (rops (sub [1, 0, 1, 0, 0, 1, 0, 0, 0] f29_c)) (by kernel_rfl) (by kernel_rfl) ?_
  refine nd_q (c := 7) 3 [0, 1, 5, 17] hs6 [(0, .pointer (some ad_c'0)), (1, .int .i64 number'1), (5, .int .i64 i'5), (17, .pointer (some ⟨ad_c'0.block, ad_c'0.off + 2, none⟩))] (by kernel_rfl) fun a8 hs9 => ?_
  refine nd_v (i := 3) (c := 6) 18 (.slice a_c'0_2 c'0.f2.length c_c'0_2) hs9 (by kernel_rfl) (ld1_run (P := Try.prog) (ad := ⟨ad_c'0.block, ad_c'0.off + 2, none⟩) (by kernel_rfl) ((hA_c'0.mono hm0).cell hst (j := 2) (Nat.le_of_ble_eq_true rfl))) fun a10 hs11 => ?_
  refine nd_q (c := 5) 1 [0, 1, 5, 18, 19] hs11 [(0, .pointer (some ad_c'0)), (1, .int .i64 number'1), (5, .int .i64 i'5), (18, .slice a_c'0_2 c'0.f2.length c_c'0_2), (19, .int .i64 i'5)] (by kernel_rfl) fun a12 hs13 => ?_
  obtain ⟨x14, hx14, hr⟩ := ofO_el hr
  obtain ⟨ad14, c14, hA14, hR14, hX14⟩ := Row.ix (h_c'0_2.mono hm0).1 hx14
  obtain ⟨he14, hf14_0, hf14_1, hf14_2, hf14_3⟩ := k67_open hR14
  have hB14 := hA14.conv he14
  refine nd_v (i := 5) (c := 4) 20 (.pointer (some ad14)) hs13 (by kernel_rfl) (hX14 (P := Try.prog) (w := w) (by kernel_rfl)) fun a15 hs16 => ?_
  refine nd_q (c := 3) 1 [0, 1, 5, 21] hs16 [(0, .pointer (some ad_c'0)), (1, .int .i64 number'1), (5, .int .i64 i'5), (21, .pointer (some ad14))] (by kernel_rfl) fun a17 hs18 => ?_
  refine nd_v (i := 7) (c := 2) 22 (.int .i64 x14.f0) hs18 (by kernel_rfl) (ld1_run (P := Try.prog) (ad := ad14) (by kernel_rfl) (hB14.cell0 hst (Nat.le_of_ble_eq_true rfl))) fun a19 hs20 => ?_
  refine nd_q (c := 0) 2 [0, 1, 5, 24] hs20 [(0, .pointer (some ad_c'0)), (1, .int .i64 number'1), (5, .int .i64 i'5), (24, .bool (x14.f0 == number'1))] (by kernel_rfl) fun a21 hs22 => ?_
  refine nd_done ?_
  by_cases hb23 : x14.f0 = number'1
  · rw [if_pos hb23] at hr
    rw [(eqT hb23)] at hs22
    refine to_then (.tmp 24) (sub [1, 0, 1, 0, 0, 1, 0, 0, 1, 0] f29_c) (sub [1, 0, 1, 0, 0, 1, 0, 0, 1, 1] f29_c) (by kernel_rfl) hs22 (by kernel_rfl) ?_
    refine to_seq (sub [1, 0, 1, 0, 0, 1, 0, 0, 1, 0, 0] f29_c) (sub [1, 0, 1, 0, 0, 1, 0, 0, 1, 0, 1] f29_c) (by kernel_rfl) ?_
    refine to_nd 5 2 (rops (sub [1, 0, 1, 0, 0, 1, 0, 0, 1, 0, 0] f29_c)) (by kernel_rfl) (by kernel_rfl) ?_
    refine nd_q (c := 0) 2 [4] hs22 [(4, .int .i64 i'5)] (by kernel_rfl) fun a24 hs25 => ?_
    refine nd_done ?_
    exact to_ret (v := .int .i64 i'5) (by kernel_rfl) hbf Try.func29 hbk hs25 (by kernel_rfl) (hQ hr hm0 hst h_i'5)
  rw [if_neg hb23] at hr
  rw [(eqF hb23)] at hs22
  refine to_else (.tmp 24) (sub [1, 0, 1, 0, 0, 1, 0, 0, 1, 0] f29_c) (sub [1, 0, 1, 0, 0, 1, 0, 0, 1, 1] f29_c) (by kernel_rfl) hs22 (by kernel_rfl) ?_
  refine to_skip (by kernel_rfl) ?_
  refine reach_inBlock ?_
  refine to_nd 3 3 (rops (sub [1, 0, 1, 0, 0, 1, 1] f29_c)) (by kernel_rfl) (by kernel_rfl) ?_
  refine nd_q (c := 0) 3 [0, 1, 5] hs22 [(0, .pointer (some ad_c'0)), (1, .int .i64 number'1), (5, .int .i64 (w64 (i'5 + (1 : Int))))] (by kernel_rfl) fun a26 hs27 => ?_
  refine nd_done ?_
  refine reach_inLoop ?_
  have hs28 := hs27.kept [0, 1, 5] [(0, .pointer (some ad_c'0)), (1, .int .i64 number'1), (5, .int .i64 (w64 (i'5 + (1 : Int))))] (by kernel_rfl)
  exact hX hr hm0 hst hs28 (wrap_in .i64 _)
def f29  (x0 : S47) (x1 : Int) : M Int := fun Q => f29_l1 x0 x1 (Q (-1 : Int)) Q (0 : Int)
theorem f29_ok  {z : Base} {w : World} {m : Mem} {G : List Grp} {ad_x0 : Addr} {a_x0_1 : Option Addr} {c_x0_1 : Nat} {a_x0_2 : Option Addr} {c_x0_2 : Nat} {x0 : S47} {x1 : Int} {Q : Int → Prop} (hst : W.St z w m (G)) (hA_x0 : At m ad_x0 6 (cells [.int .i64 x0.f0, .slice a_x0_1 x0.f1.length c_x0_1, .slice a_x0_2 x0.f2.length c_x0_2, .int .i64 x0.f3.f0, .int .i64 x0.f3.f1, .int .i64 x0.f3.f2])) (h_x0_0 : InR .i64 x0.f0) (h_x0_1 : Sl kBool 1 m a_x0_1 c_x0_1 x0.f1) (h_x0_2 : Sl k67 40 m a_x0_2 c_x0_2 x0.f2) (h_x0_3 : InR .i64 x0.f3.f0) (h_x0_4 : InR .i64 x0.f3.f1) (h_x0_5 : InR .i64 x0.f3.f2) (h_x1 : InR .i64 x1) (hr : f29  x0 x1 Q) : Calls Try.prog 29 #[.pointer (some ad_x0), .int .i64 x1] w (f29_post z m G  Q) := by
  refine calls_begin (c := f29_c) (n := 26) [.pointer (some ad_x0), .int .i64 x1] Try.func29 (by kernel_rfl) Try.ntmps29 (Nat.le_of_ble_eq_true rfl) fun b cs a0 hbf hbk hs0 => ?_
  have hm0 := Mem.le.refl m
  have hQ : ∀ {r : Int}, Q r → f29_YR z m G (f29_post z m G  Q)  r := by intro r hq m' w'  hm' hst' hf0_0; exact ⟨r,  W.St.less hm' hst', rfl, hf0_0, hq⟩
  unfold f29 at hr
  refine to_seq (sub [0] f29_c) (sub [1] f29_c) (by kernel_rfl) ?_
  refine to_nd 0 1 (rops (sub [0] f29_c)) (by kernel_rfl) (by kernel_rfl) ?_
  refine nd_q (c := 0) 1 [0, 1] hs0 [(0, .pointer (some ad_x0)), (1, .int .i64 x1)] (by kernel_rfl) fun a1 hs2 => ?_
  refine nd_done ?_
  refine to_seq (sub [1, 0] f29_c) (sub [1, 1] f29_c) (by kernel_rfl) ?_
  refine to_seq (sub [1, 0, 0] f29_c) (sub [1, 0, 1] f29_c) (by kernel_rfl) ?_
  refine to_nd 1 1 (rops (sub [1, 0, 0] f29_c)) (by kernel_rfl) (by kernel_rfl) ?_
  refine nd_q (c := 0) 1 [0, 1, 5] hs2 [(0, .pointer (some ad_x0)), (1, .int .i64 x1), (5, .int .i64 (0 : Int))] (by kernel_rfl) fun a3 hs4 => ?_
  refine nd_done ?_
  refine to_block 0 (sub [1, 0, 1, 0] f29_c) (by kernel_rfl) ?_
  refine to_loop (sub [1, 0, 1, 0, 0] f29_c) (by kernel_rfl) ?_
  have hs5 := hs4.kept [0, 1, 5] [(0, .pointer (some ad_x0)), (1, .int .i64 x1), (5, .int .i64 (0 : Int))] (by kernel_rfl)
  refine f29_l1_ok hbf hbk hA_x0 h_x0_0 h_x0_1 h_x0_2 h_x0_3 h_x0_4 h_x0_5 h_x1  ?_ (fun hq => f29_YR_mono (Mem.le.refl _) (hQ hq)) hr (Mem.le.refl _) hst hs5 (inr_of (by kernel_rfl))
  intro _ hr
  intro m7 w9 a11  hm8 hst10 hs12 
  refine to_seq (sub [1, 1, 0] f29_c) (sub [1, 1, 1] f29_c) (by kernel_rfl) ?_
  refine to_nd 6 1 (rops (sub [1, 1, 0] f29_c)) (by kernel_rfl) (by kernel_rfl) ?_
  refine nd_q (c := 0) 1 [4] hs12 [(4, .int .i64 (-1 : Int))] (by kernel_rfl) fun a13 hs14 => ?_
  refine nd_done ?_
  exact to_ret (v := .int .i64 (-1 : Int)) (by kernel_rfl) hbf Try.func29 hbk hs14 (by kernel_rfl) (hQ hr hm8 hst10 (inr_of (by kernel_rfl)))
/-! ### 30: (*salchow/salchowref50.Channel).open -/
noncomputable def f30_c : Code := codeOf Try.f30
def f30_post (z : Base) (m : Mem) (G : List Grp)  (Q : Bool → Prop) : Ending → World → Prop := fun e w' => ∃ (r : Bool) , W.St z w' m (G) ∧ e = .returned (.bool r) ∧ Q r
def f30_YR (z : Base) (m0 : Mem) (G : List Grp) (R : Ending → World → Prop)  (r : Bool) : Prop := ∀ {m : Mem} {w : World} , m0.le m → W.St z w m (G) →  R (.returned (.bool r)) w
theorem f30_YR_mono {z : Base} {m0 m1 : Mem} {G : List Grp} {R : Ending → World → Prop}  {r : Bool} (hm : m0.le m1) (h : f30_YR z m0 G R  r) : f30_YR z m1 G R  r := by
  intro m w  hm'
  exact h (hm.trans hm')
def f30  (x0 : S47) (x1 : S36) : M Bool := fun Q => ofO (ix x0.f1 (mx x1.f0 x1.f1)) fun x42 => Q (!x42)
theorem f30_ok  {z : Base} {w : World} {m : Mem} {G : List Grp} {ad_x0 : Addr} {a_x0_1 : Option Addr} {c_x0_1 : Nat} {a_x0_2 : Option Addr} {c_x0_2 : Nat} {x0 : S47} {x1 : S36} {Q : Bool → Prop} (hst : W.St z w m (G)) (hA_x0 : At m ad_x0 6 (cells [.int .i64 x0.f0, .slice a_x0_1 x0.f1.length c_x0_1, .slice a_x0_2 x0.f2.length c_x0_2, .int .i64 x0.f3.f0, .int .i64 x0.f3.f1, .int .i64 x0.f3.f2])) (h_x0_0 : InR .i64 x0.f0) (h_x0_1 : Sl kBool 1 m a_x0_1 c_x0_1 x0.f1) (h_x0_2 : Sl k67 40 m a_x0_2 c_x0_2 x0.f2) (h_x0_3 : InR .i64 x0.f3.f0) (h_x0_4 : InR .i64 x0.f3.f1) (h_x0_5 : InR .i64 x0.f3.f2) (h_x1_0 : InR .i64 x1.f0) (h_x1_1 : InR .i64 x1.f1) (h_x1_2 : x1.f2.size ≤ reach) (hr : f30  x0 x1 Q) : Calls Try.prog 30 #[.pointer (some ad_x0), .agg #[.int .i64 x1.f0, .int .i64 x1.f1, .string x1.f2]] w (f30_post z m G  Q) := by
  refine calls_begin (c := f30_c) (n := 17) [.pointer (some ad_x0), .agg #[.int .i64 x1.f0, .int .i64 x1.f1, .string x1.f2]] Try.func30 (by kernel_rfl) Try.ntmps30 (Nat.le_of_ble_eq_true rfl) fun b cs a0 hbf hbk hs0 => ?_
  have hm0 := Mem.le.refl m
  have hQ : ∀ {r : Bool}, Q r → f30_YR z m G (f30_post z m G  Q)  r := by intro r hq m' w'  hm' hst' ; exact ⟨r,  W.St.less hm' hst', rfl, hq⟩
  unfold f30 at hr
  refine to_seq (sub [0] f30_c) (sub [1] f30_c) (by kernel_rfl) ?_
  refine to_nd 0 2 (rops (sub [0] f30_c)) (by kernel_rfl) (by kernel_rfl) ?_
  have hst3 := hst.alloc (.cells [.int .i64 x1.f0, .int .i64 x1.f1, .string x1.f2].toArray 37 (0, 0))
  refine nd_op (op_v (w' := w.alloc (.cells [.int .i64 x1.f0, .int .i64 x1.f1, .string x1.f2].toArray 37 (0, 0))) (some 3) (.pointer (some ⟨w.heap.size, 0, none⟩)) hs0 (by kernel_rfl) (by kernel_rfl) fun a4 hs5 => ?_)
  generalize w.heap.size = b1 at hst3 hs5
  generalize w.alloc (.cells [.int .i64 x1.f0, .int .i64 x1.f1, .string x1.f2].toArray 37 (0, 0)) = w2 at hst3 ⊢
  refine nd_q (c := 0) 1 [0, 3] hs5 [(0, .pointer (some ad_x0)), (3, .pointer (some ⟨b1, 0, none⟩))] (by kernel_rfl) fun a6 hs7 => ?_
  refine nd_done ?_
  refine to_seq (sub [1, 0] f30_c) (sub [1, 1] f30_c) (by kernel_rfl) ?_
  have hs8 := hs7.kept [0, 3] [(0, .pointer (some ad_x0)), (3, .pointer (some ⟨b1, 0, none⟩))] (by kernel_rfl)
  refine to_dr 1 13 (rops (sub [1, 0] f30_c)) (by kernel_rfl) (by kernel_rfl) (by kernel_rfl) [] (fun w => Go.Proofs.Ytcnlbnccghjeaaa.W.St z w m ([(b1, .cells [.int .i64 x1.f0, .int .i64 x1.f1, .string x1.f2].toArray 37 (0, 0))] :: G)) (fun _ _ => True) fun hd9 => ?_
  have hst11 := hst3.drawn (w2.drawn + 1)
  generalize hw12 : ({ w2 with drawn := w2.drawn + 1 } : World) = w10 at hst11 ⊢
  clear hw12
  refine dr_q (fuel := 10) [0, 1, 2] [3, 7] [] hs8 hd9 ⟨hst11, fun _ hx => by cases hx⟩ (by kernel_rfl) (by kernel_rfl) ([(7, .pointer (some ⟨ad_x0.block, ad_x0.off + 1, none⟩)), (6, .pointer (some ad_x0)), (5, .pointer (some ad_x0))] ++ [(0, .pointer (some ad_x0)), (3, .pointer (some ⟨b1, 0, none⟩))]) [(3, .pointer (some ⟨b1, 0, none⟩)), (7, .pointer (some ⟨ad_x0.block, ad_x0.off + 1, none⟩))] (by kernel_rfl) (by kernel_rfl) (fun _ hx => by cases hx) (fun w hT _ => by kernel_rfl) fun a13 hs14 hd15 hS16 => ?_
  refine dr_vp (fuel := 9) 3 8 (.slice a_x0_1 x0.f1.length c_x0_1) [] hs14 hd15 ⟨hst11, fun _ hx => by cases hx⟩ (by kernel_rfl) (by kernel_rfl) (by kernel_rfl) (fun _ hx => by cases hx) (by kernel_rfl) (fun w hT hF => ld1_run (P := Try.prog) (ad := ⟨ad_x0.block, ad_x0.off + 1, none⟩) (by kernel_rfl) (hA_x0.cell hT (j := 1) (Nat.le_of_ble_eq_true rfl))) fun a18 hs19 hd17 hS20 => ?_
  refine dr_q (fuel := 8) [4] [3, 8, 9] [] hs19 hd17 ⟨hst11, fun _ hx => by cases hx⟩ (by kernel_rfl) (by kernel_rfl) ([(9, .pointer (some ⟨b1, 0, none⟩))] ++ ((8, .slice a_x0_1 x0.f1.length c_x0_1) :: [(3, .pointer (some ⟨b1, 0, none⟩)), (7, .pointer (some ⟨ad_x0.block, ad_x0.off + 1, none⟩))])) [(3, .pointer (some ⟨b1, 0, none⟩)), (8, .slice a_x0_1 x0.f1.length c_x0_1), (9, .pointer (some ⟨b1, 0, none⟩))] (by kernel_rfl) (by kernel_rfl) (fun _ hx => by cases hx) (fun w hT _ => by kernel_rfl) fun a21 hs22 hd23 hS24 => ?_
  refine dr_vp (fuel := 7) 5 10 (.int .i64 x1.f0) [] hs22 hd23 ⟨hst11, fun _ hx => by cases hx⟩ (by kernel_rfl) (by kernel_rfl) (by kernel_rfl) (fun _ hx => by cases hx) (by kernel_rfl) (fun w hT hF => ld1_run (P := Try.prog) (ad := ⟨b1, 0, none⟩) (by kernel_rfl) (W.St.ocell [] hT 0 (Nat.le_of_ble_eq_true rfl))) fun a26 hs27 hd25 hS28 => ?_
  refine dr_q (fuel := 6) [6] [8, 10, 11] [] hs27 hd25 ⟨hst11, fun _ hx => by cases hx⟩ (by kernel_rfl) (by kernel_rfl) ([(11, .pointer (some ⟨b1, 1, none⟩))] ++ ((10, .int .i64 x1.f0) :: [(3, .pointer (some ⟨b1, 0, none⟩)), (8, .slice a_x0_1 x0.f1.length c_x0_1), (9, .pointer (some ⟨b1, 0, none⟩))])) [(8, .slice a_x0_1 x0.f1.length c_x0_1), (10, .int .i64 x1.f0), (11, .pointer (some ⟨b1, 1, none⟩))] (by kernel_rfl) (by kernel_rfl) (fun _ hx => by cases hx) (fun w hT _ => by kernel_rfl) fun a29 hs30 hd31 hS32 => ?_
  refine dr_vp (fuel := 5) 7 12 (.int .i64 x1.f1) [] hs30 hd31 ⟨hst11, fun _ hx => by cases hx⟩ (by kernel_rfl) (by kernel_rfl) (by kernel_rfl) (fun _ hx => by cases hx) (by kernel_rfl) (fun w hT hF => ld1_run (P := Try.prog) (ad := ⟨b1, 1, none⟩) (by kernel_rfl) (W.St.ocell [] hT 1 (Nat.le_of_ble_eq_true rfl))) fun a34 hs35 hd33 hS36 => ?_
  refine dr_q (fuel := 4) [8] [8, 13] [] hs35 hd33 ⟨hst11, fun _ hx => by cases hx⟩ (by kernel_rfl) (by kernel_rfl) ([(13, .int .i64 (mx x1.f0 x1.f1))] ++ ((12, .int .i64 x1.f1) :: [(8, .slice a_x0_1 x0.f1.length c_x0_1), (10, .int .i64 x1.f0), (11, .pointer (some ⟨b1, 1, none⟩))])) [(8, .slice a_x0_1 x0.f1.length c_x0_1), (13, .int .i64 (mx x1.f0 x1.f1))] (by kernel_rfl) (by kernel_rfl) (fun _ hx => by cases hx) (fun w hT _ => by kernel_rfl) fun a37 hs38 hd39 hS40 => ?_
  obtain ⟨x42, hx42, hr⟩ := ofO_el hr
  obtain ⟨ad42, c42, hA42, hR42, hX42⟩ := Row.ix h_x0_1.1 hx42
  have he42 := kBool_open hR42
  have hB42 := hA42.conv he42
  refine dr_vp (fuel := 3) 9 14 (.pointer (some ad42)) [] hs38 hd39 ⟨hst11, fun _ hx => by cases hx⟩ (by kernel_rfl) (by kernel_rfl) (by kernel_rfl) (fun _ hx => by cases hx) (by kernel_rfl) (fun w hT hF => hX42 (P := Try.prog) (w := w) (by kernel_rfl)) fun a43 hs44 hd41 hS45 => ?_
  refine dr_vp (fuel := 2) 10 15 (.bool x42) [] hs44 hd41 ⟨hst11, fun _ hx => by cases hx⟩ (by kernel_rfl) (by kernel_rfl) (by kernel_rfl) (fun _ hx => by cases hx) (by kernel_rfl) (fun w hT hF => ld1_run (P := Try.prog) (ad := ad42) (by kernel_rfl) (hB42.cell0 hT (Nat.le_of_ble_eq_true rfl))) fun a47 hs48 hd46 hS49 => ?_
  refine dr_q (fuel := 0) [11, 12] [4] [] hs48 hd46 ⟨hst11, fun _ hx => by cases hx⟩ (by kernel_rfl) (by kernel_rfl) ([(4, .bool (!x42)), (16, .bool (!x42))] ++ ((15, .bool x42) :: ((14, .pointer (some ad42)) :: [(8, .slice a_x0_1 x0.f1.length c_x0_1), (13, .int .i64 (mx x1.f0 x1.f1))]))) [(4, .bool (!x42))] (by kernel_rfl) (by kernel_rfl) (fun _ hx => by cases hx) (fun w hT _ => by kernel_rfl) fun a50 hs51 hd52 hS53 => ?_
  refine dr_done (by kernel_rfl) ?_
  have hst54 := W.St.drop [] hst11
  exact to_ret (v := .bool (!x42)) (by kernel_rfl) hbf Try.func30 hbk hs51 (by kernel_rfl) (hQ hr (Mem.le.refl _) hst54 )
end Go.Proofs.Ytcnlbnccghjeaaa.W
