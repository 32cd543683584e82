/- Printed by gen2.py: a law as a Lean function, and the proof that the call comes to it. Conditions: none. -/
import Derived.Test.YtcnlbnccghjeaaaF7
set_option linter.unusedVariables false
set_option linter.unusedSimpArgs false
set_option maxRecDepth 100000
namespace Go.Proofs.Ytcnlbnccghjeaaa.W
open Go

/-! ### 8: salchow/salchowlaw50.ChannelFull -/
noncomputable def f8_c : Code := codeOf Try.f8
def f8_post (z : Base) (m : Mem) (G : List Grp)  (Q : Bool → Prop) : Ending → World → Prop := fun e w' => ∃ (r : Bool) , W.St z w' m (G) ∧ e = .returned (.bool r) ∧ Q r
def f8_YR (z : Base) (m0 : Mem) (G : List Grp) (R : Ending → World → Prop)  (r : Bool) : Prop := ∀ {m : Mem} {w : World} , m0.le m → W.St z w m (G) →  R (.returned (.bool r)) w
theorem f8_YR_mono {z : Base} {m0 m1 : Mem} {G : List Grp} {R : Ending → World → Prop}  {r : Bool} (hm : m0.le m1) (h : f8_YR z m0 G R  r) : f8_YR z m1 G R  r := by
  intro m w  hm'
  exact h (hm.trans hm')
def f8_l2_Y (z : Base) (m0 : Mem) (G : List Grp) (b : Frame) (cs : List Frame) (R : Ending → World → Prop) (which'0 : Int) (frame'1 : ByteArray) (c'5 : (Option S62)) (i'7 : Int) : Prop := ∀ {m : Mem} {w : World} {a : Act} {p_c'5 : Option Addr} {I_c'5 : Grp}, m0.le m → W.St z w m (I_c'5 :: G) → Has 108 a [(0, .int .i64 which'0), (1, .string frame'1), (5, .pointer p_c'5), (7, .int .i64 i'7)] → (OwnN62 m p_c'5 I_c'5 c'5) → (InR .i64 i'7) → Reach Try.prog b cs R [.code (sub [1, 1, 1, 1, 1, 0, 1, 0, 0] f8_c), .inLoop (sub [1, 1, 1, 1, 1, 0, 1, 0, 0] f8_c), .inBlock 0, .code (sub [1, 1, 1, 1, 1, 1] f8_c)] a w
def f8_j3_Y (z : Base) (m0 : Mem) (G : List Grp) (b : Frame) (cs : List Frame) (R : Ending → World → Prop) (which'0 : Int) (frame'1 : ByteArray) (c'5b : S62) (i'7 : Int) (t'55 : Bool) : Prop := ∀ {m : Mem} {w : World} {a : Act} {b_c'5b : Nat} {I_c'5b : Grp}, m0.le m → W.St z w m (I_c'5b :: G) → Has 108 a [(0, .int .i64 which'0), (1, .string frame'1), (5, .pointer (some ⟨b_c'5b, 0, none⟩)), (7, .int .i64 i'7), (55, .bool t'55)] → (OwnS62 m b_c'5b I_c'5b c'5b) → (InR .i64 i'7) → Reach Try.prog b cs R [.code (sub [1, 1, 1, 1, 1, 0, 1, 0, 0, 1, 0, 0, 1, 1] f8_c), .inBlock 1, .code (sub [1, 1, 1, 1, 1, 0, 1, 0, 0, 1, 1] f8_c), .inLoop (sub [1, 1, 1, 1, 1, 0, 1, 0, 0] f8_c), .inBlock 0, .code (sub [1, 1, 1, 1, 1, 1] f8_c)] a w
def f8_j3 (which'0 : Int) (frame'1 : ByteArray) (Q : Bool → Prop) (X : (Option S62) → Int → Prop) (c'5b : S62) (i'7 : Int) (t'55 : Bool) : Prop := if t'55 = true then (Q false) else (X (some c'5b) (w64 (i'7 + (1 : Int))))
theorem f8_j3_ok {z : Base} {m0 : Mem} {G : List Grp} {b : Frame} {cs : List Frame} {R : Ending → World → Prop} {which'0 : Int} {frame'1 : ByteArray} {Q : Bool → Prop} {X : (Option S62) → Int → Prop} (hbf : b.fn = 8) (hbk : b.kind = .normal) (h_which'0 : InR .i64 which'0) (h_frame'1 : frame'1.size ≤ reach)  (hQ : ∀ {r : Bool}, Q r → f8_YR z m0 G R  r) (hX : ∀ {c'5 : (Option S62)} {i'7 : Int}, X c'5 i'7 → f8_l2_Y z m0 G b cs R which'0 frame'1 c'5 i'7) : ∀ {c'5b : S62} {i'7 : Int} {t'55 : Bool}, f8_j3 which'0 frame'1 Q X c'5b i'7 t'55 → f8_j3_Y z m0 G b cs R which'0 frame'1 c'5b i'7 t'55 := by
  intro c'5b i'7 t'55 hr m w a0 b_c'5b I_c'5b hm0 hst hs0 h_c'5b h_i'7
  unfold f8_j3 at hr
  by_cases hb1 : t'55 = true
  · rw [if_pos hb1] at hr
    rw [(bT hb1)] at hs0
    refine to_then (.tmp 55) (sub [1, 1, 1, 1, 1, 0, 1, 0, 0, 1, 0, 0, 1, 1, 0] f8_c) (sub [1, 1, 1, 1, 1, 0, 1, 0, 0, 1, 0, 0, 1, 1, 1] f8_c) (by kernel_rfl) hs0 (by kernel_rfl) ?_
    refine to_seq (sub [1, 1, 1, 1, 1, 0, 1, 0, 0, 1, 0, 0, 1, 1, 0, 0] f8_c) (sub [1, 1, 1, 1, 1, 0, 1, 0, 0, 1, 0, 0, 1, 1, 0, 1] f8_c) (by kernel_rfl) ?_
    refine to_nd 13 1 (rops (sub [1, 1, 1, 1, 1, 0, 1, 0, 0, 1, 0, 0, 1, 1, 0, 0] f8_c)) (by kernel_rfl) (by kernel_rfl) ?_
    refine nd_q (c := 0) 1 [4] hs0 [(4, .bool false)] (by kernel_rfl) fun a2 hs3 => ?_
    refine nd_done ?_
    have hst4 := W.St.drop [] hst
    exact to_ret (v := .bool false) (by kernel_rfl) hbf Try.func8 hbk hs3 (by kernel_rfl) (hQ hr hm0 hst4 )
  rw [if_neg hb1] at hr
  rw [(bF hb1)] at hs0
  refine to_else (.tmp 55) (sub [1, 1, 1, 1, 1, 0, 1, 0, 0, 1, 0, 0, 1, 1, 0] f8_c) (sub [1, 1, 1, 1, 1, 0, 1, 0, 0, 1, 0, 0, 1, 1, 1] f8_c) (by kernel_rfl) hs0 (by kernel_rfl) ?_
  refine to_skip (by kernel_rfl) ?_
  refine reach_inBlock ?_
  refine to_nd 10 3 (rops (sub [1, 1, 1, 1, 1, 0, 1, 0, 0, 1, 1] f8_c)) (by kernel_rfl) (by kernel_rfl) ?_
  refine nd_q (c := 0) 3 [0, 1, 5, 7] hs0 [(0, .int .i64 which'0), (1, .string frame'1), (5, .pointer (some ⟨b_c'5b, 0, none⟩)), (7, .int .i64 (w64 (i'7 + (1 : Int))))] (by kernel_rfl) fun a5 hs6 => ?_
  refine nd_done ?_
  refine reach_inLoop ?_
  have hs7 := hs6.kept [0, 1, 5, 7] [(0, .int .i64 which'0), (1, .string frame'1), (5, .pointer (some ⟨b_c'5b, 0, none⟩)), (7, .int .i64 (w64 (i'7 + (1 : Int))))] (by kernel_rfl)
  exact hX hr hm0 hst hs7 (h_c'5b.nn) (wrap_in .i64 _)
def f8_l2_Yk1 (z : Base) (m0 : Mem) (G : List Grp) (b : Frame) (cs : List Frame) (R : Ending → World → Prop) (which'0 : Int) (frame'1 : ByteArray) (c'5 : (Option S62)) : Prop := ∀ {m : Mem} {w : World} {a : Act} {p_c'5 : Option Addr} {I_c'5 : Grp}, m0.le m → W.St z w m (I_c'5 :: G) → Has 108 a [(0, .int .i64 which'0), (1, .string frame'1), (5, .pointer p_c'5)] → (OwnN62 m p_c'5 I_c'5 c'5) → Reach Try.prog b cs R [.code (sub [1, 1, 1, 1, 1, 1] f8_c)] a w
def f8_l2_b (which'0 : Int) (frame'1 : ByteArray) (k1 : (Option S62) → Prop) (Q : Bool → Prop) (X : (Option S62) → Int → Prop) (c'5 : (Option S62)) (i'7 : Int) : Prop := if i'7 < (4096 : Int) then (onPtr c'5 False (fun y6 => f21 y6 (0 : Int) (1 : Int) frame'1 fun r10 => if r10.2.1 = (0 : Int) then (f8_j3 which'0 frame'1 Q X r10.2.2 i'7 (r10.1 != i'7)) else (f8_j3 which'0 frame'1 Q X r10.2.2 i'7 true))) else (k1 c'5)
def f8_l2 (which'0 : Int) (frame'1 : ByteArray) (k1 : (Option S62) → Prop) (Q : Bool → Prop) (c'5 : (Option S62)) (i'7 : Int) : Prop := ∀ X : (Option S62) → Int → Prop, (∀ {c'5 : (Option S62)} {i'7 : Int}, f8_l2_b which'0 frame'1 k1 Q X c'5 i'7 → X c'5 i'7) → X c'5 i'7
theorem f8_l2_ok {z : Base} {m0 : Mem} {G : List Grp} {b : Frame} {cs : List Frame} {R : Ending → World → Prop} {which'0 : Int} {frame'1 : ByteArray} {k1 : (Option S62) → Prop} {Q : Bool → Prop}  (hbf : b.fn = 8) (hbk : b.kind = .normal) (h_which'0 : InR .i64 which'0) (h_frame'1 : frame'1.size ≤ reach)  (hk1 : ∀ {c'5 : (Option S62)}, k1 c'5 → f8_l2_Yk1 z m0 G b cs R which'0 frame'1 c'5) (hQ : ∀ {r : Bool}, Q r → f8_YR z m0 G R  r) : ∀ {c'5 : (Option S62)} {i'7 : Int}, f8_l2 which'0 frame'1 k1 Q c'5 i'7 → f8_l2_Y z m0 G b cs R which'0 frame'1 c'5 i'7 := by
  intro c'5 i'7 hr
  refine hr (f8_l2_Y z m0 G b cs R which'0 frame'1) ?_
  intro c'5 i'7 hr m w a0 p_c'5 I_c'5 hm0 hst hs0 h_c'5 h_i'7
  have hX : ∀ {c'5 : (Option S62)} {i'7 : Int}, f8_l2_Y z m0 G b cs R which'0 frame'1 c'5 i'7 → f8_l2_Y z m0 G b cs R which'0 frame'1 c'5 i'7 := fun h => h
  unfold f8_l2_b at hr
  refine to_seq (sub [1, 1, 1, 1, 1, 0, 1, 0, 0, 0] f8_c) (sub [1, 1, 1, 1, 1, 0, 1, 0, 0, 1] f8_c) (by kernel_rfl) ?_
  refine to_seq (sub [1, 1, 1, 1, 1, 0, 1, 0, 0, 0, 0] f8_c) (sub [1, 1, 1, 1, 1, 0, 1, 0, 0, 0, 1] f8_c) (by kernel_rfl) ?_
  refine to_nd 9 2 (rops (sub [1, 1, 1, 1, 1, 0, 1, 0, 0, 0, 0] f8_c)) (by kernel_rfl) (by kernel_rfl) ?_
  refine nd_q (c := 0) 2 [0, 1, 5, 7, 40] hs0 [(0, .int .i64 which'0), (1, .string frame'1), (5, .pointer p_c'5), (7, .int .i64 i'7), (40, .bool (decide (i'7 < (4096 : Int))))] (by kernel_rfl) fun a1 hs2 => ?_
  refine nd_done ?_
  by_cases hb3 : i'7 < (4096 : Int)
  rotate_left
  · rw [if_neg hb3] at hr
    rw [(decide_eq_false hb3)] at hs2
    refine to_else (.tmp 40) (sub [1, 1, 1, 1, 1, 0, 1, 0, 0, 0, 1, 0] f8_c) (sub [1, 1, 1, 1, 1, 0, 1, 0, 0, 0, 1, 1] f8_c) (by kernel_rfl) hs2 (by kernel_rfl) ?_
    refine to_exit 0 (by kernel_rfl) [.code (sub [1, 1, 1, 1, 1, 1] f8_c)] rfl ?_
    have hs28 := hs2.kept [0, 1, 5] [(0, .int .i64 which'0), (1, .string frame'1), (5, .pointer p_c'5)] (by kernel_rfl)
    exact hk1 hr hm0 hst hs28 h_c'5
  rw [if_pos hb3] at hr
  rw [(decide_eq_true hb3)] at hs2
  refine to_then (.tmp 40) (sub [1, 1, 1, 1, 1, 0, 1, 0, 0, 0, 1, 0] f8_c) (sub [1, 1, 1, 1, 1, 0, 1, 0, 0, 0, 1, 1] f8_c) (by kernel_rfl) hs2 (by kernel_rfl) ?_
  refine to_skip (by kernel_rfl) ?_
  refine to_seq (sub [1, 1, 1, 1, 1, 0, 1, 0, 0, 1, 0] f8_c) (sub [1, 1, 1, 1, 1, 0, 1, 0, 0, 1, 1] f8_c) (by kernel_rfl) ?_
  refine to_block 1 (sub [1, 1, 1, 1, 1, 0, 1, 0, 0, 1, 0, 0] f8_c) (by kernel_rfl) ?_
  refine to_seq (sub [1, 1, 1, 1, 1, 0, 1, 0, 0, 1, 0, 0, 0] f8_c) (sub [1, 1, 1, 1, 1, 0, 1, 0, 0, 1, 0, 0, 1] f8_c) (by kernel_rfl) ?_
  refine to_nd 11 8 (rops (sub [1, 1, 1, 1, 1, 0, 1, 0, 0, 1, 0, 0, 0] f8_c)) (by kernel_rfl) (by kernel_rfl) ?_
  refine nd_q (c := 6) 2 [0, 1, 5, 7, 44, 45] hs2 [(0, .int .i64 which'0), (1, .string frame'1), (5, .pointer p_c'5), (7, .int .i64 i'7), (44, .pointer p_c'5), (45, .string frame'1)] (by kernel_rfl) fun a4 hs5 => ?_
  obtain ⟨hx7, _⟩ | ⟨b8, y6, hx7, rfl, ho9⟩ := h_c'5
  · exact (onPtr_none hx7 hr).elim
  replace hr := onPtr_some hx7 hr
  refine nd_op (op_call (some 46) hs5 (by kernel_rfl) (by kernel_rfl) ((f21_ok hst ho9 (inr_of (by kernel_rfl)) (inr_of (by kernel_rfl)) h_frame'1 hr).mono ?_))
  rintro _ w11 ⟨r10, I10_i0, hst14, rfl, hf10_0_0, hf10_1_0, hf10_i0, hr⟩
  revert hr; intro hr
  refine ⟨_, rfl, fun a12 hs13 => ?_⟩
  refine nd_q (c := 0) 5 [0, 1, 5, 7, 8, 9] hs13 [(0, .int .i64 which'0), (1, .string frame'1), (5, .pointer (some ⟨b8, 0, none⟩)), (7, .int .i64 i'7), (8, .int .i64 r10.1), (9, .int .i64 r10.2.1)] (by kernel_rfl) fun a17 hs18 => ?_
  refine nd_done ?_
  refine to_seq (sub [1, 1, 1, 1, 1, 0, 1, 0, 0, 1, 0, 0, 1, 0] f8_c) (sub [1, 1, 1, 1, 1, 0, 1, 0, 0, 1, 0, 0, 1, 1] f8_c) (by kernel_rfl) ?_
  refine to_nd 12 7 (rops (sub [1, 1, 1, 1, 1, 0, 1, 0, 0, 1, 0, 0, 1, 0] f8_c)) (by kernel_rfl) (by kernel_rfl) ?_
  refine nd_q (c := 4) 3 [0, 1, 5, 7, 8, 51] hs18 [(0, .int .i64 which'0), (1, .string frame'1), (5, .pointer (some ⟨b8, 0, none⟩)), (7, .int .i64 i'7), (8, .int .i64 r10.1), (51, .bool (r10.2.1 != (0 : Int)))] (by kernel_rfl) fun a19 hs20 => ?_
  by_cases hb21 : r10.2.1 = (0 : Int)
  · rw [if_pos hb21] at hr
    rw [(neF hb21)] at hs20
    refine nd_q (c := 0) 4 [0, 1, 5, 7, 55] hs20 [(0, .int .i64 which'0), (1, .string frame'1), (5, .pointer (some ⟨b8, 0, none⟩)), (7, .int .i64 i'7), (55, .bool (r10.1 != i'7))] (by kernel_rfl) fun a22 hs23 => ?_
    refine nd_done ?_
    have hs24 := hs23.kept [0, 1, 5, 7, 55] [(0, .int .i64 which'0), (1, .string frame'1), (5, .pointer (some ⟨b8, 0, none⟩)), (7, .int .i64 i'7), (55, .bool (r10.1 != i'7))] (by kernel_rfl)
    exact f8_j3_ok hbf hbk h_which'0 h_frame'1  hQ hX hr hm0 hst14 hs24 hf10_i0 h_i'7
  rw [if_neg hb21] at hr
  rw [(neT hb21)] at hs20
  refine nd_q (c := 0) 4 [0, 1, 5, 7, 55] hs20 [(0, .int .i64 which'0), (1, .string frame'1), (5, .pointer (some ⟨b8, 0, none⟩)), (7, .int .i64 i'7), (55, .bool true)] (by kernel_rfl) fun a25 hs26 => ?_
  refine nd_done ?_
  have hs27 := hs26.kept [0, 1, 5, 7, 55] [(0, .int .i64 which'0), (1, .string frame'1), (5, .pointer (some ⟨b8, 0, none⟩)), (7, .int .i64 i'7), (55, .bool true)] (by kernel_rfl)
  exact f8_j3_ok hbf hbk h_which'0 h_frame'1  hQ hX hr hm0 hst14 hs27 hf10_i0 h_i'7
def f8_j1_Y (z : Base) (m0 : Mem) (G : List Grp) (b : Frame) (cs : List Frame) (R : Ending → World → Prop) (x0 : Int) (x1 : ByteArray) (t'32 : Bool) : Prop := ∀ {m : Mem} {w : World} {a : Act} , m0.le m → W.St z w m (G) → Has 108 a [(0, .int .i64 x0), (1, .string x1), (32, .bool t'32)] →  Reach Try.prog b cs R [.code (sub [1, 1, 0, 1] f8_c), .code (sub [1, 1, 1] f8_c)] a w
def f8_j1 (x0 : Int) (x1 : ByteArray) (Q : Bool → Prop) (t'32 : Bool) : Prop := if t'32 = true then (Q true) else (f10 (1 : Int) fun r4 => if r4.2 = (0 : Int) then (f8_l2 x0 x1 (fun c'5e19 => onPtr c'5e19 False (fun y28 => f21 y28 (1 : Int) (0 : Int) x1 fun r32 => f22 r32.2.2 x0 fun r43 => f25 r43.2.2 x0 fun r54 => f21 r54.2.2 (0 : Int) (1 : Int) x1 fun r76 => f21 r76.2.2 (0 : Int) (1 : Int) x1 fun r87 => if r32.2.1 = (14 : Int) then (if r43.2.1 = (14 : Int) then (if r54.2.1 = (0 : Int) then (if r76.2.1 = (0 : Int) then (if r76.1 = (4096 : Int) then (Q (r87.2.1 == (14 : Int))) else (Q false)) else (Q false)) else (Q false)) else (Q false)) else (Q false))) Q r4.1 (0 : Int)) else (Q false))
theorem f8_j1_ok {z : Base} {m0 : Mem} {G : List Grp} {b : Frame} {cs : List Frame} {R : Ending → World → Prop} {x0 : Int} {x1 : ByteArray} {Q : Bool → Prop} (hbf : b.fn = 8) (hbk : b.kind = .normal) (h_x0 : InR .i64 x0) (h_x1 : x1.size ≤ reach)  (hQ : ∀ {r : Bool}, Q r → f8_YR z m0 G R  r) : ∀ {t'32 : Bool}, f8_j1 x0 x1 Q t'32 → f8_j1_Y z m0 G b cs R x0 x1 t'32 := by
  intro t'32 hr m w a0  hm0 hst hs0 
  unfold f8_j1 at hr
  by_cases hb1 : t'32 = true
  · rw [if_pos hb1] at hr
    rw [(bT hb1)] at hs0
    refine to_then (.tmp 32) (sub [1, 1, 0, 1, 0] f8_c) (sub [1, 1, 0, 1, 1] f8_c) (by kernel_rfl) hs0 (by kernel_rfl) ?_
    refine to_seq (sub [1, 1, 0, 1, 0, 0] f8_c) (sub [1, 1, 0, 1, 0, 1] f8_c) (by kernel_rfl) ?_
    refine to_nd 4 1 (rops (sub [1, 1, 0, 1, 0, 0] f8_c)) (by kernel_rfl) (by kernel_rfl) ?_
    refine nd_q (c := 0) 1 [4] hs0 [(4, .bool true)] (by kernel_rfl) fun a2 hs3 => ?_
    refine nd_done ?_
    exact to_ret (v := .bool true) (by kernel_rfl) hbf Try.func8 hbk hs3 (by kernel_rfl) (hQ hr hm0 hst )
  rw [if_neg hb1] at hr
  rw [(bF hb1)] at hs0
  refine to_else (.tmp 32) (sub [1, 1, 0, 1, 0] f8_c) (sub [1, 1, 0, 1, 1] f8_c) (by kernel_rfl) hs0 (by kernel_rfl) ?_
  refine to_skip (by kernel_rfl) ?_
  refine to_seq (sub [1, 1, 1, 0] f8_c) (sub [1, 1, 1, 1] f8_c) (by kernel_rfl) ?_
  refine to_nd 5 6 (rops (sub [1, 1, 1, 0] f8_c)) (by kernel_rfl) (by kernel_rfl) ?_
  refine nd_op (op_call (some 34) hs0 (by kernel_rfl) (by kernel_rfl) ((f10_ok hst (inr_of (by kernel_rfl)) hr).mono ?_))
  rintro _ w5 ⟨r4, p4_0_0, I4_0_0, hst8, rfl, hf4_0_0, hf4_1_0, hr⟩
  revert hr; intro hr
  refine ⟨_, rfl, fun a6 hs7 => ?_⟩
  refine nd_q (c := 0) 5 [0, 1, 5, 6] hs7 [(0, .int .i64 x0), (1, .string x1), (5, .pointer p4_0_0), (6, .int .i64 r4.2)] (by kernel_rfl) fun a11 hs12 => ?_
  refine nd_done ?_
  refine to_seq (sub [1, 1, 1, 1, 0] f8_c) (sub [1, 1, 1, 1, 1] f8_c) (by kernel_rfl) ?_
  refine to_seq (sub [1, 1, 1, 1, 0, 0] f8_c) (sub [1, 1, 1, 1, 0, 1] f8_c) (by kernel_rfl) ?_
  refine to_nd 6 2 (rops (sub [1, 1, 1, 1, 0, 0] f8_c)) (by kernel_rfl) (by kernel_rfl) ?_
  refine nd_q (c := 0) 2 [0, 1, 5, 38] hs12 [(0, .int .i64 x0), (1, .string x1), (5, .pointer p4_0_0), (38, .bool (r4.2 != (0 : Int)))] (by kernel_rfl) fun a13 hs14 => ?_
  refine nd_done ?_
  by_cases hb15 : r4.2 = (0 : Int)
  rotate_left
  · rw [if_neg hb15] at hr
    rw [(neT hb15)] at hs14
    refine to_then (.tmp 38) (sub [1, 1, 1, 1, 0, 1, 0] f8_c) (sub [1, 1, 1, 1, 0, 1, 1] f8_c) (by kernel_rfl) hs14 (by kernel_rfl) ?_
    refine to_seq (sub [1, 1, 1, 1, 0, 1, 0, 0] f8_c) (sub [1, 1, 1, 1, 0, 1, 0, 1] f8_c) (by kernel_rfl) ?_
    refine to_nd 7 1 (rops (sub [1, 1, 1, 1, 0, 1, 0, 0] f8_c)) (by kernel_rfl) (by kernel_rfl) ?_
    refine nd_q (c := 0) 1 [4] hs14 [(4, .bool false)] (by kernel_rfl) fun a135 hs136 => ?_
    refine nd_done ?_
    have hst137 := W.St.drop [] hst8
    exact to_ret (v := .bool false) (by kernel_rfl) hbf Try.func8 hbk hs136 (by kernel_rfl) (hQ hr hm0 hst137 )
  rw [if_pos hb15] at hr
  rw [(neF hb15)] at hs14
  refine to_else (.tmp 38) (sub [1, 1, 1, 1, 0, 1, 0] f8_c) (sub [1, 1, 1, 1, 0, 1, 1] f8_c) (by kernel_rfl) hs14 (by kernel_rfl) ?_
  refine to_skip (by kernel_rfl) ?_
  refine to_seq (sub [1, 1, 1, 1, 1, 0] f8_c) (sub [1, 1, 1, 1, 1, 1] f8_c) (by kernel_rfl) ?_
  refine to_seq (sub [1, 1, 1, 1, 1, 0, 0] f8_c) (sub [1, 1, 1, 1, 1, 0, 1] f8_c) (by kernel_rfl) ?_
  refine to_nd 8 1 (rops (sub [1, 1, 1, 1, 1, 0, 0] f8_c)) (by kernel_rfl) (by kernel_rfl) ?_
  refine nd_q (c := 0) 1 [0, 1, 5, 7] hs14 [(0, .int .i64 x0), (1, .string x1), (5, .pointer p4_0_0), (7, .int .i64 (0 : Int))] (by kernel_rfl) fun a16 hs17 => ?_
  refine nd_done ?_
  refine to_block 0 (sub [1, 1, 1, 1, 1, 0, 1, 0] f8_c) (by kernel_rfl) ?_
  refine to_loop (sub [1, 1, 1, 1, 1, 0, 1, 0, 0] f8_c) (by kernel_rfl) ?_
  have hs18 := hs17.kept [0, 1, 5, 7] [(0, .int .i64 x0), (1, .string x1), (5, .pointer p4_0_0), (7, .int .i64 (0 : Int))] (by kernel_rfl)
  refine f8_l2_ok hbf hbk h_x0 h_x1  ?_ (fun hq => f8_YR_mono hm0 (hQ hq)) hr (Mem.le.refl _) hst8 hs18 hf4_0_0 (inr_of (by kernel_rfl))
  intro c'5e19 hr
  intro m20 w22 a24 p_c'5e19 I_c'5e19 hm21 hst23 hs25 h_c'5e19
  refine to_seq (sub [1, 1, 1, 1, 1, 1, 0] f8_c) (sub [1, 1, 1, 1, 1, 1, 1] f8_c) (by kernel_rfl) ?_
  refine to_nd 14 8 (rops (sub [1, 1, 1, 1, 1, 1, 0] f8_c)) (by kernel_rfl) (by kernel_rfl) ?_
  refine nd_q (c := 6) 2 [0, 1, 5, 57, 58] hs25 [(0, .int .i64 x0), (1, .string x1), (5, .pointer p_c'5e19), (57, .pointer p_c'5e19), (58, .string x1)] (by kernel_rfl) fun a26 hs27 => ?_
  obtain ⟨hx29, _⟩ | ⟨b30, y28, hx29, rfl, ho31⟩ := h_c'5e19
  · exact (onPtr_none hx29 hr).elim
  replace hr := onPtr_some hx29 hr
  refine nd_op (op_call (some 59) hs27 (by kernel_rfl) (by kernel_rfl) ((f21_ok hst23 ho31 (inr_of (by kernel_rfl)) (inr_of (by kernel_rfl)) h_x1 hr).mono ?_))
  rintro _ w33 ⟨r32, I32_i0, hst36, rfl, hf32_0_0, hf32_1_0, hf32_i0, hr⟩
  revert hr; intro hr
  refine ⟨_, rfl, fun a34 hs35 => ?_⟩
  refine nd_q (c := 0) 5 [0, 1, 5, 11] hs35 [(0, .int .i64 x0), (1, .string x1), (5, .pointer (some ⟨b30, 0, none⟩)), (11, .int .i64 r32.2.1)] (by kernel_rfl) fun a39 hs40 => ?_
  refine nd_done ?_
  refine to_seq (sub [1, 1, 1, 1, 1, 1, 1, 0] f8_c) (sub [1, 1, 1, 1, 1, 1, 1, 1] f8_c) (by kernel_rfl) ?_
  refine to_nd 15 8 (rops (sub [1, 1, 1, 1, 1, 1, 1, 0] f8_c)) (by kernel_rfl) (by kernel_rfl) ?_
  refine nd_q (c := 6) 2 [0, 1, 5, 11, 63, 64] hs40 [(0, .int .i64 x0), (1, .string x1), (5, .pointer (some ⟨b30, 0, none⟩)), (11, .int .i64 r32.2.1), (63, .pointer (some ⟨b30, 0, none⟩)), (64, .int .i64 x0)] (by kernel_rfl) fun a41 hs42 => ?_
  refine nd_op (op_call (some 65) hs42 (by kernel_rfl) (by kernel_rfl) ((f22_ok hst36 hf32_i0 h_x0 hr).mono ?_))
  rintro _ w44 ⟨r43, I43_i0, hst47, rfl, hf43_0_0, hf43_1_0, hf43_i0, hr⟩
  revert hr; intro hr
  refine ⟨_, rfl, fun a45 hs46 => ?_⟩
  refine nd_q (c := 0) 5 [0, 1, 5, 11, 13] hs46 [(0, .int .i64 x0), (1, .string x1), (5, .pointer (some ⟨b30, 0, none⟩)), (11, .int .i64 r32.2.1), (13, .int .i64 r43.2.1)] (by kernel_rfl) fun a50 hs51 => ?_
  refine nd_done ?_
  refine to_seq (sub [1, 1, 1, 1, 1, 1, 1, 1, 0] f8_c) (sub [1, 1, 1, 1, 1, 1, 1, 1, 1] f8_c) (by kernel_rfl) ?_
  refine to_nd 16 9 (rops (sub [1, 1, 1, 1, 1, 1, 1, 1, 0] f8_c)) (by kernel_rfl) (by kernel_rfl) ?_
  refine nd_q (c := 7) 2 [1, 5, 11, 13, 69, 70] hs51 [(1, .string x1), (5, .pointer (some ⟨b30, 0, none⟩)), (11, .int .i64 r32.2.1), (13, .int .i64 r43.2.1), (69, .pointer (some ⟨b30, 0, none⟩)), (70, .int .i64 x0)] (by kernel_rfl) fun a52 hs53 => ?_
  refine nd_op (op_call (some 71) hs53 (by kernel_rfl) (by kernel_rfl) ((f25_ok hst47 hf43_i0 h_x0 hr).mono ?_))
  rintro _ w55 ⟨r54, I54_i0, hst58, rfl, hf54_0_0, hf54_0_1, hf54_0_2, hf54_1_0, hf54_i0, hr⟩
  revert hr; intro hr
  refine ⟨_, rfl, fun a56 hs57 => ?_⟩
  refine nd_q (c := 3) 3 [1, 5, 11, 13, 72, 73] hs57 [(1, .string x1), (5, .pointer (some ⟨b30, 0, none⟩)), (11, .int .i64 r32.2.1), (13, .int .i64 r43.2.1), (72, .agg #[.int .i64 r54.1.f0, .int .i64 r54.1.f1, .string r54.1.f2]), (73, .int .i64 r54.2.1)] (by kernel_rfl) fun a61 hs62 => ?_
  have hst65 := hst58.alloc (.cells [.int .i64 (0 : Int), .int .i64 (0 : Int), .string ByteArray.empty].toArray 37 (0, 0))
  refine nd_op (op_v (w' := w55.alloc (.cells [.int .i64 (0 : Int), .int .i64 (0 : Int), .string ByteArray.empty].toArray 37 (0, 0))) (some 14) (.pointer (some ⟨w55.heap.size, 0, none⟩)) hs62 (by kernel_rfl) (by kernel_rfl) fun a66 hs67 => ?_)
  generalize w55.heap.size = b63 at hst65 hs67
  generalize w55.alloc (.cells [.int .i64 (0 : Int), .int .i64 (0 : Int), .string ByteArray.empty].toArray 37 (0, 0)) = w64 at hst65 ⊢
  obtain ⟨wq68, hxq68, hstq68⟩ := stq_run (P := Try.prog) (o := opAt (rops (sub [1, 1, 1, 1, 1, 1, 1, 1, 0] f8_c)) 7) (ρ := Env.rho hs67.env) (off := 0) (vs := [.int .i64 r54.1.f0, .int .i64 r54.1.f1, .string r54.1.f2]) (by kernel_rfl) (by kernel_rfl) (Nat.le_of_ble_eq_true rfl) hst65 [.int .i64 r54.1.f0, .int .i64 r54.1.f1, .string r54.1.f2] rfl
  refine nd_op (op_s none hs67 (by kernel_rfl) hxq68 fun a69 hs70 => ?_)
  refine nd_q (c := 0) 1 [1, 5, 11, 13, 15] hs70 [(1, .string x1), (5, .pointer (some ⟨b30, 0, none⟩)), (11, .int .i64 r32.2.1), (13, .int .i64 r43.2.1), (15, .int .i64 r54.2.1)] (by kernel_rfl) fun a71 hs72 => ?_
  refine nd_done ?_
  refine to_seq (sub [1, 1, 1, 1, 1, 1, 1, 1, 1, 0] f8_c) (sub [1, 1, 1, 1, 1, 1, 1, 1, 1, 1] f8_c) (by kernel_rfl) ?_
  refine to_nd 17 8 (rops (sub [1, 1, 1, 1, 1, 1, 1, 1, 1, 0] f8_c)) (by kernel_rfl) (by kernel_rfl) ?_
  refine nd_q (c := 6) 2 [1, 5, 11, 13, 15, 75, 76] hs72 [(1, .string x1), (5, .pointer (some ⟨b30, 0, none⟩)), (11, .int .i64 r32.2.1), (13, .int .i64 r43.2.1), (15, .int .i64 r54.2.1), (75, .pointer (some ⟨b30, 0, none⟩)), (76, .string x1)] (by kernel_rfl) fun a73 hs74 => ?_
  have hst75 := W.St.front [_] hstq68
  refine nd_op (op_call (some 77) hs74 (by kernel_rfl) (by kernel_rfl) ((f21_ok hst75 hf54_i0 (inr_of (by kernel_rfl)) (inr_of (by kernel_rfl)) h_x1 hr).mono ?_))
  rintro _ w77 ⟨r76, I76_i0, hst80, rfl, hf76_0_0, hf76_1_0, hf76_i0, hr⟩
  revert hr; intro hr
  refine ⟨_, rfl, fun a78 hs79 => ?_⟩
  refine nd_q (c := 0) 5 [1, 5, 11, 13, 15, 16, 17] hs79 [(1, .string x1), (5, .pointer (some ⟨b30, 0, none⟩)), (11, .int .i64 r32.2.1), (13, .int .i64 r43.2.1), (15, .int .i64 r54.2.1), (16, .int .i64 r76.1), (17, .int .i64 r76.2.1)] (by kernel_rfl) fun a83 hs84 => ?_
  refine nd_done ?_
  refine to_seq (sub [1, 1, 1, 1, 1, 1, 1, 1, 1, 1, 0] f8_c) (sub [1, 1, 1, 1, 1, 1, 1, 1, 1, 1, 1] f8_c) (by kernel_rfl) ?_
  refine to_nd 18 8 (rops (sub [1, 1, 1, 1, 1, 1, 1, 1, 1, 1, 0] f8_c)) (by kernel_rfl) (by kernel_rfl) ?_
  refine nd_q (c := 6) 2 [11, 13, 15, 16, 17, 81, 82] hs84 [(11, .int .i64 r32.2.1), (13, .int .i64 r43.2.1), (15, .int .i64 r54.2.1), (16, .int .i64 r76.1), (17, .int .i64 r76.2.1), (81, .pointer (some ⟨b30, 0, none⟩)), (82, .string x1)] (by kernel_rfl) fun a85 hs86 => ?_
  refine nd_op (op_call (some 83) hs86 (by kernel_rfl) (by kernel_rfl) ((f21_ok hst80 hf76_i0 (inr_of (by kernel_rfl)) (inr_of (by kernel_rfl)) h_x1 hr).mono ?_))
  rintro _ w88 ⟨r87, I87_i0, hst91, rfl, hf87_0_0, hf87_1_0, hf87_i0, hr⟩
  revert hr; intro hr
  refine ⟨_, rfl, fun a89 hs90 => ?_⟩
  refine nd_q (c := 0) 5 [11, 13, 15, 16, 17, 19] hs90 [(11, .int .i64 r32.2.1), (13, .int .i64 r43.2.1), (15, .int .i64 r54.2.1), (16, .int .i64 r76.1), (17, .int .i64 r76.2.1), (19, .int .i64 r87.2.1)] (by kernel_rfl) fun a94 hs95 => ?_
  refine nd_done ?_
  refine to_seq (sub [1, 1, 1, 1, 1, 1, 1, 1, 1, 1, 1, 0] f8_c) (sub [1, 1, 1, 1, 1, 1, 1, 1, 1, 1, 1, 1] f8_c) (by kernel_rfl) ?_
  refine to_nd 19 23 (rops (sub [1, 1, 1, 1, 1, 1, 1, 1, 1, 1, 1, 0] f8_c)) (by kernel_rfl) (by kernel_rfl) ?_
  refine nd_q (c := 20) 3 [13, 15, 16, 17, 19, 88] hs95 [(13, .int .i64 r43.2.1), (15, .int .i64 r54.2.1), (16, .int .i64 r76.1), (17, .int .i64 r76.2.1), (19, .int .i64 r87.2.1), (88, .bool (r32.2.1 == (14 : Int)))] (by kernel_rfl) fun a96 hs97 => ?_
  by_cases hb98 : r32.2.1 = (14 : Int)
  rotate_left
  · rw [if_neg hb98] at hr
    rw [(eqF hb98)] at hs97
    refine nd_q (c := 0) 20 [4] hs97 [(4, .bool false)] (by kernel_rfl) fun a131 hs132 => ?_
    refine nd_done ?_
    have hst133 := W.St.drop [] hst91
    have hst134 := W.St.drop [] hst133
    exact to_ret (v := .bool false) (by kernel_rfl) hbf Try.func8 hbk hs132 (by kernel_rfl) (hQ hr (hm0.trans hm21) hst134 )
  rw [if_pos hb98] at hr
  rw [(eqT hb98)] at hs97
  refine nd_q (c := 16) 4 [15, 16, 17, 19, 92] hs97 [(15, .int .i64 r54.2.1), (16, .int .i64 r76.1), (17, .int .i64 r76.2.1), (19, .int .i64 r87.2.1), (92, .bool (r43.2.1 == (14 : Int)))] (by kernel_rfl) fun a99 hs100 => ?_
  by_cases hb101 : r43.2.1 = (14 : Int)
  rotate_left
  · rw [if_neg hb101] at hr
    rw [(eqF hb101)] at hs100
    refine nd_q (c := 0) 16 [4] hs100 [(4, .bool false)] (by kernel_rfl) fun a127 hs128 => ?_
    refine nd_done ?_
    have hst129 := W.St.drop [] hst91
    have hst130 := W.St.drop [] hst129
    exact to_ret (v := .bool false) (by kernel_rfl) hbf Try.func8 hbk hs128 (by kernel_rfl) (hQ hr (hm0.trans hm21) hst130 )
  rw [if_pos hb101] at hr
  rw [(eqT hb101)] at hs100
  refine nd_q (c := 12) 4 [16, 17, 19, 96] hs100 [(16, .int .i64 r76.1), (17, .int .i64 r76.2.1), (19, .int .i64 r87.2.1), (96, .bool (r54.2.1 == (0 : Int)))] (by kernel_rfl) fun a102 hs103 => ?_
  by_cases hb104 : r54.2.1 = (0 : Int)
  rotate_left
  · rw [if_neg hb104] at hr
    rw [(eqF hb104)] at hs103
    refine nd_q (c := 0) 12 [4] hs103 [(4, .bool false)] (by kernel_rfl) fun a123 hs124 => ?_
    refine nd_done ?_
    have hst125 := W.St.drop [] hst91
    have hst126 := W.St.drop [] hst125
    exact to_ret (v := .bool false) (by kernel_rfl) hbf Try.func8 hbk hs124 (by kernel_rfl) (hQ hr (hm0.trans hm21) hst126 )
  rw [if_pos hb104] at hr
  rw [(eqT hb104)] at hs103
  refine nd_q (c := 8) 4 [16, 19, 100] hs103 [(16, .int .i64 r76.1), (19, .int .i64 r87.2.1), (100, .bool (r76.2.1 == (0 : Int)))] (by kernel_rfl) fun a105 hs106 => ?_
  by_cases hb107 : r76.2.1 = (0 : Int)
  rotate_left
  · rw [if_neg hb107] at hr
    rw [(eqF hb107)] at hs106
    refine nd_q (c := 0) 8 [4] hs106 [(4, .bool false)] (by kernel_rfl) fun a119 hs120 => ?_
    refine nd_done ?_
    have hst121 := W.St.drop [] hst91
    have hst122 := W.St.drop [] hst121
    exact to_ret (v := .bool false) (by kernel_rfl) hbf Try.func8 hbk hs120 (by kernel_rfl) (hQ hr (hm0.trans hm21) hst122 )
  rw [if_pos hb107] at hr
  rw [(eqT hb107)] at hs106
  refine nd_q (c := 4) 4 [19, 104] hs106 [(19, .int .i64 r87.2.1), (104, .bool (r76.1 == (4096 : Int)))] (by kernel_rfl) fun a108 hs109 => ?_
  by_cases hb110 : r76.1 = (4096 : Int)
  · rw [if_pos hb110] at hr
    rw [(eqT hb110)] at hs109
    refine nd_q (c := 0) 4 [4] hs109 [(4, .bool (r87.2.1 == (14 : Int)))] (by kernel_rfl) fun a111 hs112 => ?_
    refine nd_done ?_
    have hst113 := W.St.drop [] hst91
    have hst114 := W.St.drop [] hst113
    exact to_ret (v := .bool (r87.2.1 == (14 : Int))) (by kernel_rfl) hbf Try.func8 hbk hs112 (by kernel_rfl) (hQ hr (hm0.trans hm21) hst114 )
  rw [if_neg hb110] at hr
  rw [(eqF hb110)] at hs109
  refine nd_q (c := 0) 4 [4] hs109 [(4, .bool false)] (by kernel_rfl) fun a115 hs116 => ?_
  refine nd_done ?_
  have hst117 := W.St.drop [] hst91
  have hst118 := W.St.drop [] hst117
  exact to_ret (v := .bool false) (by kernel_rfl) hbf Try.func8 hbk hs116 (by kernel_rfl) (hQ hr (hm0.trans hm21) hst118 )
def f8  (x0 : Int) (x1 : ByteArray) : M Bool := fun Q => f9 fun r3 => if r3 = true then (if x0 < (0 : Int) then (f8_j1 x0 x1 Q true) else (if x0 ≥ (4096 : Int) then (f8_j1 x0 x1 Q true) else (f8_j1 x0 x1 Q (decide ((x1.size : Int) > (20 : Int)))))) else (Q false)
theorem f8_ok  {z : Base} {w : World} {m : Mem} {G : List Grp} {x0 : Int} {x1 : ByteArray} {Q : Bool → Prop} (hst : W.St z w m (G)) (h_x0 : InR .i64 x0) (h_x1 : x1.size ≤ reach) (hr : f8  x0 x1 Q) : Calls Try.prog 8 #[.int .i64 x0, .string x1] w (f8_post z m G  Q) := by
  refine calls_begin (c := f8_c) (n := 108) [.int .i64 x0, .string x1] Try.func8 (by kernel_rfl) Try.ntmps8 (Nat.le_of_ble_eq_true rfl) fun b cs a0 hbf hbk hs0 => ?_
  have hm0 := Mem.le.refl m
  have hQ : ∀ {r : Bool}, Q r → f8_YR z m G (f8_post z m G  Q)  r := by intro r hq m' w'  hm' hst' ; exact ⟨r,  W.St.less hm' hst', rfl, hq⟩
  unfold f8 at hr
  refine to_seq (sub [0] f8_c) (sub [1] f8_c) (by kernel_rfl) ?_
  refine to_nd 0 1 (rops (sub [0] f8_c)) (by kernel_rfl) (by kernel_rfl) ?_
  refine nd_q (c := 0) 1 [0, 1] hs0 [(0, .int .i64 x0), (1, .string x1)] (by kernel_rfl) fun a1 hs2 => ?_
  refine nd_done ?_
  refine to_seq (sub [1, 0] f8_c) (sub [1, 1] f8_c) (by kernel_rfl) ?_
  refine to_seq (sub [1, 0, 0] f8_c) (sub [1, 0, 1] f8_c) (by kernel_rfl) ?_
  refine to_nd 1 2 (rops (sub [1, 0, 0] f8_c)) (by kernel_rfl) (by kernel_rfl) ?_
  refine nd_op (op_call (some 20) hs2 (by kernel_rfl) (by kernel_rfl) ((f9_ok hst hr).mono ?_))
  rintro _ w4 ⟨r3, hst7, rfl, hr⟩
  revert hr; intro hr
  refine ⟨_, rfl, fun a5 hs6 => ?_⟩
  refine nd_q (c := 0) 1 [0, 1, 21] hs6 [(0, .int .i64 x0), (1, .string x1), (21, .bool (!r3))] (by kernel_rfl) fun a10 hs11 => ?_
  refine nd_done ?_
  by_cases hb12 : r3 = true
  rotate_left
  · rw [if_neg hb12] at hr
    rw [(bF hb12)] at hs11
    refine to_then (.tmp 21) (sub [1, 0, 1, 0] f8_c) (sub [1, 0, 1, 1] f8_c) (by kernel_rfl) hs11 (by kernel_rfl) ?_
    refine to_seq (sub [1, 0, 1, 0, 0] f8_c) (sub [1, 0, 1, 0, 1] f8_c) (by kernel_rfl) ?_
    refine to_nd 2 1 (rops (sub [1, 0, 1, 0, 0] f8_c)) (by kernel_rfl) (by kernel_rfl) ?_
    refine nd_q (c := 0) 1 [4] hs11 [(4, .bool false)] (by kernel_rfl) fun a28 hs29 => ?_
    refine nd_done ?_
    exact to_ret (v := .bool false) (by kernel_rfl) hbf Try.func8 hbk hs29 (by kernel_rfl) (hQ hr (Mem.le.refl _) hst7 )
  rw [if_pos hb12] at hr
  rw [(bT hb12)] at hs11
  refine to_else (.tmp 21) (sub [1, 0, 1, 0] f8_c) (sub [1, 0, 1, 1] f8_c) (by kernel_rfl) hs11 (by kernel_rfl) ?_
  refine to_skip (by kernel_rfl) ?_
  refine to_seq (sub [1, 1, 0] f8_c) (sub [1, 1, 1] f8_c) (by kernel_rfl) ?_
  refine to_seq (sub [1, 1, 0, 0] f8_c) (sub [1, 1, 0, 1] f8_c) (by kernel_rfl) ?_
  refine to_nd 3 11 (rops (sub [1, 1, 0, 0] f8_c)) (by kernel_rfl) (by kernel_rfl) ?_
  refine nd_q (c := 8) 3 [0, 1, 24] hs11 [(0, .int .i64 x0), (1, .string x1), (24, .bool (decide (x0 < (0 : Int))))] (by kernel_rfl) fun a13 hs14 => ?_
  by_cases hb15 : x0 < (0 : Int)
  · rw [if_pos hb15] at hr
    rw [(decide_eq_true hb15)] at hs14
    refine nd_q (c := 0) 8 [0, 1, 32] hs14 [(0, .int .i64 x0), (1, .string x1), (32, .bool true)] (by kernel_rfl) fun a16 hs17 => ?_
    refine nd_done ?_
    have hs18 := hs17.kept [0, 1, 32] [(0, .int .i64 x0), (1, .string x1), (32, .bool true)] (by kernel_rfl)
    exact f8_j1_ok hbf hbk h_x0 h_x1  hQ hr (Mem.le.refl _) hst7 hs18 
  rw [if_neg hb15] at hr
  rw [(decide_eq_false hb15)] at hs14
  refine nd_q (c := 4) 4 [0, 1, 28] hs14 [(0, .int .i64 x0), (1, .string x1), (28, .bool (decide (x0 ≥ (4096 : Int))))] (by kernel_rfl) fun a19 hs20 => ?_
  by_cases hb21 : x0 ≥ (4096 : Int)
  · rw [if_pos hb21] at hr
    rw [(decide_eq_true hb21)] at hs20
    refine nd_q (c := 0) 4 [0, 1, 32] hs20 [(0, .int .i64 x0), (1, .string x1), (32, .bool true)] (by kernel_rfl) fun a22 hs23 => ?_
    refine nd_done ?_
    have hs24 := hs23.kept [0, 1, 32] [(0, .int .i64 x0), (1, .string x1), (32, .bool true)] (by kernel_rfl)
    exact f8_j1_ok hbf hbk h_x0 h_x1  hQ hr (Mem.le.refl _) hst7 hs24 
  rw [if_neg hb21] at hr
  rw [(decide_eq_false hb21)] at hs20
  refine nd_q (c := 0) 4 [0, 1, 32] hs20 [(0, .int .i64 x0), (1, .string x1), (32, .bool (decide ((x1.size : Int) > (20 : Int))))] (by kernel_rfl) fun a25 hs26 => ?_
  refine nd_done ?_
  have hs27 := hs26.kept [0, 1, 32] [(0, .int .i64 x0), (1, .string x1), (32, .bool (decide ((x1.size : Int) > (20 : Int))))] (by kernel_rfl)
  exact f8_j1_ok hbf hbk h_x0 h_x1  hQ hr (Mem.le.refl _) hst7 hs27 
def PureChannelFull : Prop := ∀ (x0 : Int) (x1 : ByteArray), (InR .i64) x0 → (fun s => s.size ≤ reach) x1 →  f8 x0 x1 (fun r => r = true)
end Go.Proofs.Ytcnlbnccghjeaaa.W
