/- Printed by gen2.py: a law as a Lean function, and the proof that the call comes to it. Conditions: none. -/
import Derived.Test.YtcnlbnccghjeaaaF7
set_option linter.unusedVariables false
set_option linter.unusedSimpArgs false
set_option maxRecDepth 100000
namespace Go.Proofs.Ytcnlbnccghjeaaa.W
open Go

/-! ### 4: salchow/salchowlaw50.ChannelPlays -/
noncomputable def f4_c : Code := codeOf Try.f4
def f4_post (z : Base) (m : Mem) (G : List Grp)  (Q : Bool → Prop) : Ending → World → Prop := fun e w' => ∃ (r : Bool) , W.St z w' m (G) ∧ e = .returned (.bool r) ∧ Q r
def f4_YR (z : Base) (m0 : Mem) (G : List Grp) (R : Ending → World → Prop)  (r : Bool) : Prop := ∀ {m : Mem} {w : World} , m0.le m → W.St z w m (G) →  R (.returned (.bool r)) w
theorem f4_YR_mono {z : Base} {m0 m1 : Mem} {G : List Grp} {R : Ending → World → Prop}  {r : Bool} (hm : m0.le m1) (h : f4_YR z m0 G R  r) : f4_YR z m1 G R  r := by
  intro m w  hm'
  exact h (hm.trans hm')
def f4_l2_Y (z : Base) (m0 : Mem) (G : List Grp) (b : Frame) (cs : List Frame) (R : Ending → World → Prop) (a_list'1 : Option Addr) (c_list'1 : Nat) (list'1 : (List S40)) (c'5 : (Option S62)) (m'7 : (Option S47)) (i'8 : Int) : Prop := ∀ {m : Mem} {w : World} {a : Act} {p_c'5 : Option Addr} {I_c'5 : Grp} {p_m'7 : Option Addr} {I_m'7 : Grp}, m0.le m → W.St z w m (I_c'5 :: I_m'7 :: G) → Has 112 a [(1, .slice a_list'1 list'1.length c_list'1), (5, .pointer p_c'5), (7, .pointer p_m'7), (8, .int .i64 i'8)] → (OwnN62 m p_c'5 I_c'5 c'5) → (OwnN47 m p_m'7 I_m'7 m'7) → (InR .i64 i'8) → Reach Try.prog b cs R [.code (sub [1, 1, 1, 1, 1, 1, 0, 1, 0, 0] f4_c), .inLoop (sub [1, 1, 1, 1, 1, 1, 0, 1, 0, 0] f4_c), .inBlock 0, .code (sub [1, 1, 1, 1, 1, 1, 1] f4_c)] a w
def f4_j3_Y (z : Base) (m0 : Mem) (G : List Grp) (b : Frame) (cs : List Frame) (R : Ending → World → Prop) (a_list'1 : Option Addr) (c_list'1 : Nat) (list'1 : (List S40)) (c'5b : S62) (m'7b : S47) (i'8 : Int) (t'111 : Bool) : Prop := ∀ {m : Mem} {w : World} {a : Act} {b_c'5b : Nat} {I_c'5b : Grp} {b_m'7b : Nat} {I_m'7b : Grp}, m0.le m → W.St z w m (I_c'5b :: I_m'7b :: G) → Has 112 a [(1, .slice a_list'1 list'1.length c_list'1), (5, .pointer (some ⟨b_c'5b, 0, none⟩)), (7, .pointer (some ⟨b_m'7b, 0, none⟩)), (8, .int .i64 i'8), (111, .bool t'111)] → (OwnS62 m b_c'5b I_c'5b c'5b) → (OwnS47 m b_m'7b I_m'7b m'7b) → (InR .i64 i'8) → Reach Try.prog b cs R [.code (sub [1, 1, 1, 1, 1, 1, 0, 1, 0, 0, 1, 0, 0, 1, 1, 1, 1] f4_c), .inBlock 1, .code (sub [1, 1, 1, 1, 1, 1, 0, 1, 0, 0, 1, 1] f4_c), .inLoop (sub [1, 1, 1, 1, 1, 1, 0, 1, 0, 0] f4_c), .inBlock 0, .code (sub [1, 1, 1, 1, 1, 1, 1] f4_c)] a w
def f4_j3 (list'1 : (List S40)) (Q : Bool → Prop) (X : (Option S62) → (Option S47) → Int → Prop) (c'5b : S62) (m'7b : S47) (i'8 : Int) (t'111 : Bool) : Prop := if t'111 = true then (Q false) else (X (some c'5b) (some m'7b) (w64 (i'8 + (1 : Int))))
theorem f4_j3_ok {z : Base} {m0 : Mem} {G : List Grp} {b : Frame} {cs : List Frame} {R : Ending → World → Prop} {a_list'1 : Option Addr} {c_list'1 : Nat} {list'1 : (List S40)} {Q : Bool → Prop} {X : (Option S62) → (Option S47) → Int → Prop} (hbf : b.fn = 4) (hbk : b.kind = .normal) (h_list'1 : Sl k40 48 m0 a_list'1 c_list'1 list'1)  (hQ : ∀ {r : Bool}, Q r → f4_YR z m0 G R  r) (hX : ∀ {c'5 : (Option S62)} {m'7 : (Option S47)} {i'8 : Int}, X c'5 m'7 i'8 → f4_l2_Y z m0 G b cs R a_list'1 c_list'1 list'1 c'5 m'7 i'8) : ∀ {c'5b : S62} {m'7b : S47} {i'8 : Int} {t'111 : Bool}, f4_j3 list'1 Q X c'5b m'7b i'8 t'111 → f4_j3_Y z m0 G b cs R a_list'1 c_list'1 list'1 c'5b m'7b i'8 t'111 := by
  intro c'5b m'7b i'8 t'111 hr m w a0 b_c'5b I_c'5b b_m'7b I_m'7b hm0 hst hs0 h_c'5b h_m'7b h_i'8
  unfold f4_j3 at hr
  by_cases hb1 : t'111 = true
  · rw [if_pos hb1] at hr
    rw [(bT hb1)] at hs0
    refine to_then (.tmp 111) (sub [1, 1, 1, 1, 1, 1, 0, 1, 0, 0, 1, 0, 0, 1, 1, 1, 1, 0] f4_c) (sub [1, 1, 1, 1, 1, 1, 0, 1, 0, 0, 1, 0, 0, 1, 1, 1, 1, 1] f4_c) (by kernel_rfl) hs0 (by kernel_rfl) ?_
    refine to_seq (sub [1, 1, 1, 1, 1, 1, 0, 1, 0, 0, 1, 0, 0, 1, 1, 1, 1, 0, 0] f4_c) (sub [1, 1, 1, 1, 1, 1, 0, 1, 0, 0, 1, 0, 0, 1, 1, 1, 1, 0, 1] f4_c) (by kernel_rfl) ?_
    refine to_nd 16 1 (rops (sub [1, 1, 1, 1, 1, 1, 0, 1, 0, 0, 1, 0, 0, 1, 1, 1, 1, 0, 0] f4_c)) (by kernel_rfl) (by kernel_rfl) ?_
    refine nd_q (c := 0) 1 [4] hs0 [(4, .bool false)] (by kernel_rfl) fun a2 hs3 => ?_
    refine nd_done ?_
    have hst4 := W.St.drop [] hst
    have hst5 := W.St.drop [] hst4
    exact to_ret (v := .bool false) (by kernel_rfl) hbf Try.func4 hbk hs3 (by kernel_rfl) (hQ hr hm0 hst5 )
  rw [if_neg hb1] at hr
  rw [(bF hb1)] at hs0
  refine to_else (.tmp 111) (sub [1, 1, 1, 1, 1, 1, 0, 1, 0, 0, 1, 0, 0, 1, 1, 1, 1, 0] f4_c) (sub [1, 1, 1, 1, 1, 1, 0, 1, 0, 0, 1, 0, 0, 1, 1, 1, 1, 1] f4_c) (by kernel_rfl) hs0 (by kernel_rfl) ?_
  refine to_skip (by kernel_rfl) ?_
  refine reach_inBlock ?_
  refine to_nd 11 3 (rops (sub [1, 1, 1, 1, 1, 1, 0, 1, 0, 0, 1, 1] f4_c)) (by kernel_rfl) (by kernel_rfl) ?_
  refine nd_q (c := 0) 3 [1, 5, 7, 8] hs0 [(1, .slice a_list'1 list'1.length c_list'1), (5, .pointer (some ⟨b_c'5b, 0, none⟩)), (7, .pointer (some ⟨b_m'7b, 0, none⟩)), (8, .int .i64 (w64 (i'8 + (1 : Int))))] (by kernel_rfl) fun a6 hs7 => ?_
  refine nd_done ?_
  refine reach_inLoop ?_
  have hs8 := hs7.kept [1, 5, 7, 8] [(1, .slice a_list'1 list'1.length c_list'1), (5, .pointer (some ⟨b_c'5b, 0, none⟩)), (7, .pointer (some ⟨b_m'7b, 0, none⟩)), (8, .int .i64 (w64 (i'8 + (1 : Int))))] (by kernel_rfl)
  exact hX hr hm0 hst hs8 (h_c'5b.nn) (h_m'7b.nn) (wrap_in .i64 _)
def f4_l2_Yk1 (z : Base) (m0 : Mem) (G : List Grp) (b : Frame) (cs : List Frame) (R : Ending → World → Prop) (a_list'1 : Option Addr) (c_list'1 : Nat) (list'1 : (List S40))  : Prop := ∀ {m : Mem} {w : World} {a : Act} , m0.le m → W.St z w m (G) → Has 112 a [] →  Reach Try.prog b cs R [.code (sub [1, 1, 1, 1, 1, 1, 1] f4_c)] a w
def f4_l2_b (list'1 : (List S40)) (k1 : Prop) (Q : Bool → Prop) (X : (Option S62) → (Option S47) → Int → Prop) (c'5 : (Option S62)) (m'7 : (Option S47)) (i'8 : Int) : Prop := if i'8 < (list'1.length : Int) then (ofO (ix list'1 i'8) fun x6 => onPtr c'5 False (fun y11 => f15 y11 x6 fun r15 => ofO (ix list'1 i'8) fun x38 => onPtr m'7 False (fun y43 => f16 y43 x38 fun r48 => f11 r15.2.2.2 fun r78 => if r15.1 = r48.1 then (if ((r15.2.1.f0 == r48.2.1.f0) && ((r15.2.1.f1 == r48.2.1.f1) && ((r15.2.1.f2.toList == r48.2.1.f2.toList) && true))) = true then (if r15.2.2.1 = r48.2.2.1 then (f12 r15.2.2.2 fun r113 => f18 r48.2.2.2 fun r130 => f17 r113 r130 fun r150 => if r150 = true then (f19 r15.2.2.2 fun r171 => f20 r48.2.2.2 fun r188 => f17 r171 r188 fun r208 => if r208 = true then (f4_j3 list'1 Q X r15.2.2.2 r48.2.2.2 i'8 (!((r78.1 == r48.2.2.2.f3.f0) && ((r78.2.1 == r48.2.2.2.f3.f1) && ((r78.2.2 == r48.2.2.2.f3.f2) && true))))) else (f4_j3 list'1 Q X r15.2.2.2 r48.2.2.2 i'8 true)) else (f4_j3 list'1 Q X r15.2.2.2 r48.2.2.2 i'8 true)) else (f4_j3 list'1 Q X r15.2.2.2 r48.2.2.2 i'8 true)) else (f4_j3 list'1 Q X r15.2.2.2 r48.2.2.2 i'8 true)) else (f4_j3 list'1 Q X r15.2.2.2 r48.2.2.2 i'8 true)))) else (k1)
def f4_l2 (list'1 : (List S40)) (k1 : Prop) (Q : Bool → Prop) (c'5 : (Option S62)) (m'7 : (Option S47)) (i'8 : Int) : Prop := ∀ X : (Option S62) → (Option S47) → Int → Prop, (∀ {c'5 : (Option S62)} {m'7 : (Option S47)} {i'8 : Int}, f4_l2_b list'1 k1 Q X c'5 m'7 i'8 → X c'5 m'7 i'8) → X c'5 m'7 i'8
theorem f4_l2_ok {z : Base} {m0 : Mem} {G : List Grp} {b : Frame} {cs : List Frame} {R : Ending → World → Prop} {a_list'1 : Option Addr} {c_list'1 : Nat} {list'1 : (List S40)} {k1 : Prop} {Q : Bool → Prop}  (hbf : b.fn = 4) (hbk : b.kind = .normal) (h_list'1 : Sl k40 48 m0 a_list'1 c_list'1 list'1)  (hk1 : ∀ (_u : Unit), k1  → f4_l2_Yk1 z m0 G b cs R a_list'1 c_list'1 list'1 ) (hQ : ∀ {r : Bool}, Q r → f4_YR z m0 G R  r) : ∀ {c'5 : (Option S62)} {m'7 : (Option S47)} {i'8 : Int}, f4_l2 list'1 k1 Q c'5 m'7 i'8 → f4_l2_Y z m0 G b cs R a_list'1 c_list'1 list'1 c'5 m'7 i'8 := by
  intro c'5 m'7 i'8 hr
  refine hr (f4_l2_Y z m0 G b cs R a_list'1 c_list'1 list'1) ?_
  intro c'5 m'7 i'8 hr m w a0 p_c'5 I_c'5 p_m'7 I_m'7 hm0 hst hs0 h_c'5 h_m'7 h_i'8
  have hX : ∀ {c'5 : (Option S62)} {m'7 : (Option S47)} {i'8 : Int}, f4_l2_Y z m0 G b cs R a_list'1 c_list'1 list'1 c'5 m'7 i'8 → f4_l2_Y z m0 G b cs R a_list'1 c_list'1 list'1 c'5 m'7 i'8 := fun h => h
  unfold f4_l2_b at hr
  refine to_seq (sub [1, 1, 1, 1, 1, 1, 0, 1, 0, 0, 0] f4_c) (sub [1, 1, 1, 1, 1, 1, 0, 1, 0, 0, 1] f4_c) (by kernel_rfl) ?_
  refine to_seq (sub [1, 1, 1, 1, 1, 1, 0, 1, 0, 0, 0, 0] f4_c) (sub [1, 1, 1, 1, 1, 1, 0, 1, 0, 0, 0, 1] f4_c) (by kernel_rfl) ?_
  refine to_nd 10 4 (rops (sub [1, 1, 1, 1, 1, 1, 0, 1, 0, 0, 0, 0] f4_c)) (by kernel_rfl) (by kernel_rfl) ?_
  refine nd_q (c := 0) 4 [1, 5, 7, 8, 43] hs0 [(1, .slice a_list'1 list'1.length c_list'1), (5, .pointer p_c'5), (7, .pointer p_m'7), (8, .int .i64 i'8), (43, .bool (decide (i'8 < (list'1.length : Int))))] (by kernel_rfl) fun a1 hs2 => ?_
  refine nd_done ?_
  by_cases hb3 : i'8 < (list'1.length : Int)
  rotate_left
  · rw [if_neg hb3] at hr
    rw [(decide_eq_false hb3)] at hs2
    refine to_else (.tmp 43) (sub [1, 1, 1, 1, 1, 1, 0, 1, 0, 0, 0, 1, 0] f4_c) (sub [1, 1, 1, 1, 1, 1, 0, 1, 0, 0, 0, 1, 1] f4_c) (by kernel_rfl) hs2 (by kernel_rfl) ?_
    refine to_exit 0 (by kernel_rfl) [.code (sub [1, 1, 1, 1, 1, 1, 1] f4_c)] rfl ?_
    have hst284 := W.St.drop [] hst
    have hst285 := W.St.drop [] hst284
    have hs286 := hs2.kept [] [] (by kernel_rfl)
    exact hk1 () hr hm0 hst285 hs286 
  rw [if_pos hb3] at hr
  rw [(decide_eq_true hb3)] at hs2
  refine to_then (.tmp 43) (sub [1, 1, 1, 1, 1, 1, 0, 1, 0, 0, 0, 1, 0] f4_c) (sub [1, 1, 1, 1, 1, 1, 0, 1, 0, 0, 0, 1, 1] f4_c) (by kernel_rfl) hs2 (by kernel_rfl) ?_
  refine to_skip (by kernel_rfl) ?_
  refine to_seq (sub [1, 1, 1, 1, 1, 1, 0, 1, 0, 0, 1, 0] f4_c) (sub [1, 1, 1, 1, 1, 1, 0, 1, 0, 0, 1, 1] f4_c) (by kernel_rfl) ?_
  refine to_block 1 (sub [1, 1, 1, 1, 1, 1, 0, 1, 0, 0, 1, 0, 0] f4_c) (by kernel_rfl) ?_
  refine to_seq (sub [1, 1, 1, 1, 1, 1, 0, 1, 0, 0, 1, 0, 0, 0] f4_c) (sub [1, 1, 1, 1, 1, 1, 0, 1, 0, 0, 1, 0, 0, 1] f4_c) (by kernel_rfl) ?_
  refine to_nd 12 14 (rops (sub [1, 1, 1, 1, 1, 1, 0, 1, 0, 0, 1, 0, 0, 0] f4_c)) (by kernel_rfl) (by kernel_rfl) ?_
  refine nd_q (c := 11) 3 [1, 5, 7, 8, 47, 48, 49] hs2 [(1, .slice a_list'1 list'1.length c_list'1), (5, .pointer p_c'5), (7, .pointer p_m'7), (8, .int .i64 i'8), (47, .pointer p_c'5), (48, .slice a_list'1 list'1.length c_list'1), (49, .int .i64 i'8)] (by kernel_rfl) fun a4 hs5 => ?_
  obtain ⟨x6, hx6, hr⟩ := ofO_el hr
  obtain ⟨ad6, c6, hA6, hR6, hX6⟩ := Row.ix (h_list'1.mono hm0).1 hx6
  obtain ⟨he6, hf6_0, hf6_1, hf6_2, hf6_3, hf6_4⟩ := k40_open hR6
  have hB6 := hA6.conv he6
  refine nd_v (i := 3) (c := 10) 50 (.pointer (some ad6)) hs5 (by kernel_rfl) (hX6 (P := Try.prog) (w := w) (by kernel_rfl)) fun a7 hs8 => ?_
  refine nd_v (i := 4) (c := 9) 51 (.agg #[.int .i64 x6.f0, .int .i64 x6.f1, .int .i64 x6.f2, .string x6.f3, .int .u8 x6.f4, .bool x6.f5]) hs8 (by kernel_rfl) (ldN_run (P := Try.prog) (ad := ad6) (l := [.int .i64 x6.f0, .int .i64 x6.f1, .int .i64 x6.f2, .string x6.f3, .int .u8 x6.f4, .bool x6.f5]) 6 rfl (by kernel_rfl) (hB6.all hst)) fun a9 hs10 => ?_
  obtain ⟨hx12, _⟩ | ⟨b13, y11, hx12, rfl, ho14⟩ := h_c'5
  · exact (onPtr_none hx12 hr).elim
  replace hr := onPtr_some hx12 hr
  refine nd_op (op_call (some 52) hs10 (by kernel_rfl) (by kernel_rfl) ((f15_ok hst ho14 hf6_0 hf6_1 hf6_2 hf6_3 hf6_4 hr).mono ?_))
  rintro _ w16 ⟨r15, I15_i0, hst19, rfl, hf15_0_0, hf15_1_0, hf15_1_1, hf15_1_2, hf15_2_0, hf15_i0, hr⟩
  revert hr; intro hr
  refine ⟨_, rfl, fun a17 hs18 => ?_⟩
  refine nd_q (c := 4) 4 [1, 5, 7, 8, 53, 54, 55] hs18 [(1, .slice a_list'1 list'1.length c_list'1), (5, .pointer (some ⟨b13, 0, none⟩)), (7, .pointer p_m'7), (8, .int .i64 i'8), (53, .int .i64 r15.1), (54, .agg #[.int .i64 r15.2.1.f0, .int .i64 r15.2.1.f1, .string r15.2.1.f2]), (55, .int .i64 r15.2.2.1)] (by kernel_rfl) fun a22 hs23 => ?_
  have hst26 := hst19.alloc (.cells [.int .i64 (0 : Int), .int .i64 (0 : Int), .string ByteArray.empty].toArray 37 (0, 0))
  refine nd_op (op_v (w' := w16.alloc (.cells [.int .i64 (0 : Int), .int .i64 (0 : Int), .string ByteArray.empty].toArray 37 (0, 0))) (some 10) (.pointer (some ⟨w16.heap.size, 0, none⟩)) hs23 (by kernel_rfl) (by kernel_rfl) fun a27 hs28 => ?_)
  generalize w16.heap.size = b24 at hst26 hs28
  generalize w16.alloc (.cells [.int .i64 (0 : Int), .int .i64 (0 : Int), .string ByteArray.empty].toArray 37 (0, 0)) = w25 at hst26 ⊢
  refine nd_q (c := 2) 1 [1, 5, 7, 8, 9, 10, 54, 55] hs28 [(1, .slice a_list'1 list'1.length c_list'1), (5, .pointer (some ⟨b13, 0, none⟩)), (7, .pointer p_m'7), (8, .int .i64 i'8), (9, .int .i64 r15.1), (10, .pointer (some ⟨b24, 0, none⟩)), (54, .agg #[.int .i64 r15.2.1.f0, .int .i64 r15.2.1.f1, .string r15.2.1.f2]), (55, .int .i64 r15.2.2.1)] (by kernel_rfl) fun a29 hs30 => ?_
  obtain ⟨wq31, hxq31, hstq31⟩ := stq_run (P := Try.prog) (o := opAt (rops (sub [1, 1, 1, 1, 1, 1, 0, 1, 0, 0, 1, 0, 0, 0] f4_c)) 12) (ρ := Env.rho hs30.env) (off := 0) (vs := [.int .i64 r15.2.1.f0, .int .i64 r15.2.1.f1, .string r15.2.1.f2]) (by kernel_rfl) (by kernel_rfl) (Nat.le_of_ble_eq_true rfl) hst26 [.int .i64 r15.2.1.f0, .int .i64 r15.2.1.f1, .string r15.2.1.f2] rfl
  refine nd_op (op_s none hs30 (by kernel_rfl) hxq31 fun a32 hs33 => ?_)
  refine nd_q (c := 0) 1 [1, 5, 7, 8, 9, 10, 11] hs33 [(1, .slice a_list'1 list'1.length c_list'1), (5, .pointer (some ⟨b13, 0, none⟩)), (7, .pointer p_m'7), (8, .int .i64 i'8), (9, .int .i64 r15.1), (10, .pointer (some ⟨b24, 0, none⟩)), (11, .int .i64 r15.2.2.1)] (by kernel_rfl) fun a34 hs35 => ?_
  refine nd_done ?_
  refine to_seq (sub [1, 1, 1, 1, 1, 1, 0, 1, 0, 0, 1, 0, 0, 1, 0] f4_c) (sub [1, 1, 1, 1, 1, 1, 0, 1, 0, 0, 1, 0, 0, 1, 1] f4_c) (by kernel_rfl) ?_
  refine to_nd 13 14 (rops (sub [1, 1, 1, 1, 1, 1, 0, 1, 0, 0, 1, 0, 0, 1, 0] f4_c)) (by kernel_rfl) (by kernel_rfl) ?_
  refine nd_q (c := 11) 3 [1, 5, 7, 8, 9, 10, 11, 57, 58, 59] hs35 [(1, .slice a_list'1 list'1.length c_list'1), (5, .pointer (some ⟨b13, 0, none⟩)), (7, .pointer p_m'7), (8, .int .i64 i'8), (9, .int .i64 r15.1), (10, .pointer (some ⟨b24, 0, none⟩)), (11, .int .i64 r15.2.2.1), (57, .pointer p_m'7), (58, .slice a_list'1 list'1.length c_list'1), (59, .int .i64 i'8)] (by kernel_rfl) fun a36 hs37 => ?_
  obtain ⟨x38, hx38, hr⟩ := ofO_el hr
  obtain ⟨ad38, c38, hA38, hR38, hX38⟩ := Row.ix (h_list'1.mono hm0).1 hx38
  obtain ⟨he38, hf38_0, hf38_1, hf38_2, hf38_3, hf38_4⟩ := k40_open hR38
  have hB38 := hA38.conv he38
  refine nd_v (i := 3) (c := 10) 60 (.pointer (some ad38)) hs37 (by kernel_rfl) (hX38 (P := Try.prog) (w := wq31) (by kernel_rfl)) fun a39 hs40 => ?_
  refine nd_v (i := 4) (c := 9) 61 (.agg #[.int .i64 x38.f0, .int .i64 x38.f1, .int .i64 x38.f2, .string x38.f3, .int .u8 x38.f4, .bool x38.f5]) hs40 (by kernel_rfl) (ldN_run (P := Try.prog) (ad := ad38) (l := [.int .i64 x38.f0, .int .i64 x38.f1, .int .i64 x38.f2, .string x38.f3, .int .u8 x38.f4, .bool x38.f5]) 6 rfl (by kernel_rfl) (hB38.all hstq31)) fun a41 hs42 => ?_
  obtain ⟨hx44, _⟩ | ⟨b45, y43, hx44, rfl, ho46⟩ := h_m'7
  · exact (onPtr_none hx44 hr).elim
  replace hr := onPtr_some hx44 hr
  have hst47 := W.St.front [_, _] hstq31
  refine nd_op (op_call (some 62) hs42 (by kernel_rfl) (by kernel_rfl) ((f16_ok hst47 ho46 hf38_0 hf38_1 hf38_2 hf38_3 hf38_4 hr).mono ?_))
  rintro _ w49 ⟨r48, I48_i0, hst52, rfl, hf48_0_0, hf48_1_0, hf48_1_1, hf48_1_2, hf48_2_0, hf48_i0, hr⟩
  revert hr; intro hr
  refine ⟨_, rfl, fun a50 hs51 => ?_⟩
  refine nd_q (c := 4) 4 [1, 5, 7, 8, 9, 10, 11, 63, 64, 65] hs51 [(1, .slice a_list'1 list'1.length c_list'1), (5, .pointer (some ⟨b13, 0, none⟩)), (7, .pointer (some ⟨b45, 0, none⟩)), (8, .int .i64 i'8), (9, .int .i64 r15.1), (10, .pointer (some ⟨b24, 0, none⟩)), (11, .int .i64 r15.2.2.1), (63, .int .i64 r48.1), (64, .agg #[.int .i64 r48.2.1.f0, .int .i64 r48.2.1.f1, .string r48.2.1.f2]), (65, .int .i64 r48.2.2.1)] (by kernel_rfl) fun a55 hs56 => ?_
  have hst59 := hst52.alloc (.cells [.int .i64 (0 : Int), .int .i64 (0 : Int), .string ByteArray.empty].toArray 37 (0, 0))
  refine nd_op (op_v (w' := w49.alloc (.cells [.int .i64 (0 : Int), .int .i64 (0 : Int), .string ByteArray.empty].toArray 37 (0, 0))) (some 13) (.pointer (some ⟨w49.heap.size, 0, none⟩)) hs56 (by kernel_rfl) (by kernel_rfl) fun a60 hs61 => ?_)
  generalize w49.heap.size = b57 at hst59 hs61
  generalize w49.alloc (.cells [.int .i64 (0 : Int), .int .i64 (0 : Int), .string ByteArray.empty].toArray 37 (0, 0)) = w58 at hst59 ⊢
  refine nd_q (c := 2) 1 [1, 5, 7, 8, 9, 10, 11, 12, 13, 64, 65] hs61 [(1, .slice a_list'1 list'1.length c_list'1), (5, .pointer (some ⟨b13, 0, none⟩)), (7, .pointer (some ⟨b45, 0, none⟩)), (8, .int .i64 i'8), (9, .int .i64 r15.1), (10, .pointer (some ⟨b24, 0, none⟩)), (11, .int .i64 r15.2.2.1), (12, .int .i64 r48.1), (13, .pointer (some ⟨b57, 0, none⟩)), (64, .agg #[.int .i64 r48.2.1.f0, .int .i64 r48.2.1.f1, .string r48.2.1.f2]), (65, .int .i64 r48.2.2.1)] (by kernel_rfl) fun a62 hs63 => ?_
  obtain ⟨wq64, hxq64, hstq64⟩ := stq_run (P := Try.prog) (o := opAt (rops (sub [1, 1, 1, 1, 1, 1, 0, 1, 0, 0, 1, 0, 0, 1, 0] f4_c)) 12) (ρ := Env.rho hs63.env) (off := 0) (vs := [.int .i64 r48.2.1.f0, .int .i64 r48.2.1.f1, .string r48.2.1.f2]) (by kernel_rfl) (by kernel_rfl) (Nat.le_of_ble_eq_true rfl) hst59 [.int .i64 r48.2.1.f0, .int .i64 r48.2.1.f1, .string r48.2.1.f2] rfl
  refine nd_op (op_s none hs63 (by kernel_rfl) hxq64 fun a65 hs66 => ?_)
  refine nd_q (c := 0) 1 [1, 5, 7, 8, 9, 10, 11, 12, 13, 14] hs66 [(1, .slice a_list'1 list'1.length c_list'1), (5, .pointer (some ⟨b13, 0, none⟩)), (7, .pointer (some ⟨b45, 0, none⟩)), (8, .int .i64 i'8), (9, .int .i64 r15.1), (10, .pointer (some ⟨b24, 0, none⟩)), (11, .int .i64 r15.2.2.1), (12, .int .i64 r48.1), (13, .pointer (some ⟨b57, 0, none⟩)), (14, .int .i64 r48.2.2.1)] (by kernel_rfl) fun a67 hs68 => ?_
  refine nd_done ?_
  refine to_seq (sub [1, 1, 1, 1, 1, 1, 0, 1, 0, 0, 1, 0, 0, 1, 1, 0] f4_c) (sub [1, 1, 1, 1, 1, 1, 0, 1, 0, 0, 1, 0, 0, 1, 1, 1] f4_c) (by kernel_rfl) ?_
  refine to_nd 14 9 (rops (sub [1, 1, 1, 1, 1, 1, 0, 1, 0, 0, 1, 0, 0, 1, 1, 0] f4_c)) (by kernel_rfl) (by kernel_rfl) ?_
  refine nd_q (c := 8) 1 [1, 5, 7, 8, 9, 10, 11, 12, 13, 14, 67] hs68 [(1, .slice a_list'1 list'1.length c_list'1), (5, .pointer (some ⟨b13, 0, none⟩)), (7, .pointer (some ⟨b45, 0, none⟩)), (8, .int .i64 i'8), (9, .int .i64 r15.1), (10, .pointer (some ⟨b24, 0, none⟩)), (11, .int .i64 r15.2.2.1), (12, .int .i64 r48.1), (13, .pointer (some ⟨b57, 0, none⟩)), (14, .int .i64 r48.2.2.1), (67, .pointer (some ⟨b13, 0, none⟩))] (by kernel_rfl) fun a69 hs70 => ?_
  have hst71 := W.St.front [_, _, _] hstq64
  have hz73 := hf15_i0.lend hst71
  have hst74 := W.St.freeze hst71
  have hm75 := Mem.le_add m I15_i0
  generalize hq76 : Mem.add m I15_i0 = m72 at hz73 hst74 hm75
  obtain ⟨aq77_0, cq77_0, rq77_1, aq77_2, cq77_2, hAq77, hfq77_0, hfq77_1, hfq77_2, hfq77_3, hfq77_4, hfq77_5⟩ := hz73
  refine nd_op (op_call (some 68) hs70 (by kernel_rfl) (by kernel_rfl) ((f11_ok hst74 hAq77 hfq77_0 hfq77_1 hfq77_2 hfq77_3 hfq77_4 hfq77_5 hr).mono ?_))
  rintro _ w79 ⟨r78, hst82, rfl, hf78_0_0, hf78_1_0, hf78_2_0, hr⟩
  revert hr; intro hr
  refine ⟨_, rfl, fun a80 hs81 => ?_⟩
  have hst85 := W.St.thaw2 hst71 (by rw [hq76]; exact Mem.le.refl _) hst82
  refine nd_q (c := 0) 7 [1, 5, 7, 8, 9, 10, 11, 12, 13, 14, 15, 16, 17] hs81 [(1, .slice a_list'1 list'1.length c_list'1), (5, .pointer (some ⟨b13, 0, none⟩)), (7, .pointer (some ⟨b45, 0, none⟩)), (8, .int .i64 i'8), (9, .int .i64 r15.1), (10, .pointer (some ⟨b24, 0, none⟩)), (11, .int .i64 r15.2.2.1), (12, .int .i64 r48.1), (13, .pointer (some ⟨b57, 0, none⟩)), (14, .int .i64 r48.2.2.1), (15, .int .i64 r78.1), (16, .int .i64 r78.2.1), (17, .int .i64 r78.2.2)] (by kernel_rfl) fun a86 hs87 => ?_
  refine nd_done ?_
  refine to_seq (sub [1, 1, 1, 1, 1, 1, 0, 1, 0, 0, 1, 0, 0, 1, 1, 1, 0] f4_c) (sub [1, 1, 1, 1, 1, 1, 0, 1, 0, 0, 1, 0, 0, 1, 1, 1, 1] f4_c) (by kernel_rfl) ?_
  refine to_nd 15 40 (rops (sub [1, 1, 1, 1, 1, 1, 0, 1, 0, 0, 1, 0, 0, 1, 1, 1, 0] f4_c)) (by kernel_rfl) (by kernel_rfl) ?_
  refine nd_q (c := 36) 4 [1, 5, 7, 8, 10, 11, 13, 14, 15, 16, 17, 75] hs87 [(1, .slice a_list'1 list'1.length c_list'1), (5, .pointer (some ⟨b13, 0, none⟩)), (7, .pointer (some ⟨b45, 0, none⟩)), (8, .int .i64 i'8), (10, .pointer (some ⟨b24, 0, none⟩)), (11, .int .i64 r15.2.2.1), (13, .pointer (some ⟨b57, 0, none⟩)), (14, .int .i64 r48.2.2.1), (15, .int .i64 r78.1), (16, .int .i64 r78.2.1), (17, .int .i64 r78.2.2), (75, .bool (r15.1 != r48.1))] (by kernel_rfl) fun a88 hs89 => ?_
  by_cases hb90 : r15.1 = r48.1
  rotate_left
  · rw [if_neg hb90] at hr
    rw [(neT hb90)] at hs89
    refine nd_q (c := 0) 36 [1, 5, 7, 8, 111] hs89 [(1, .slice a_list'1 list'1.length c_list'1), (5, .pointer (some ⟨b13, 0, none⟩)), (7, .pointer (some ⟨b45, 0, none⟩)), (8, .int .i64 i'8), (111, .bool true)] (by kernel_rfl) fun a279 hs280 => ?_
    refine nd_done ?_
    have hst281 := W.St.drop [_] hst85
    have hst282 := W.St.drop [_, _] hst281
    have hs283 := hs280.kept [1, 5, 7, 8, 111] [(1, .slice a_list'1 list'1.length c_list'1), (5, .pointer (some ⟨b13, 0, none⟩)), (7, .pointer (some ⟨b45, 0, none⟩)), (8, .int .i64 i'8), (111, .bool true)] (by kernel_rfl)
    exact f4_j3_ok hbf hbk h_list'1  hQ hX hr hm0 hst282 hs283 hf15_i0 hf48_i0 h_i'8
  rw [if_pos hb90] at hr
  rw [(neF hb90)] at hs89
  refine nd_v (i := 4) (c := 35) 76 (.agg #[.int .i64 r15.2.1.f0, .int .i64 r15.2.1.f1, .string r15.2.1.f2]) hs89 (by kernel_rfl) (ldN_run (P := Try.prog) (ad := ⟨b24, 0, none⟩) (l := [.int .i64 r15.2.1.f0, .int .i64 r15.2.1.f1, .string r15.2.1.f2]) 3 rfl (by kernel_rfl) (W.St.ocells [_, _, _] hst85)) fun a91 hs92 => ?_
  refine nd_v (i := 5) (c := 34) 77 (.agg #[.int .i64 r48.2.1.f0, .int .i64 r48.2.1.f1, .string r48.2.1.f2]) hs92 (by kernel_rfl) (ldN_run (P := Try.prog) (ad := ⟨b57, 0, none⟩) (l := [.int .i64 r48.2.1.f0, .int .i64 r48.2.1.f1, .string r48.2.1.f2]) 3 rfl (by kernel_rfl) (W.St.ocells [_] hst85)) fun a93 hs94 => ?_
  refine nd_v (i := 6) (c := 33) 78 (.bool (!((r15.2.1.f0 == r48.2.1.f0) && ((r15.2.1.f1 == r48.2.1.f1) && ((r15.2.1.f2.toList == r48.2.1.f2.toList) && true))))) hs94 (by kernel_rfl) (aeq_run (P := Try.prog) false ((r15.2.1.f0 == r48.2.1.f0) && ((r15.2.1.f1 == r48.2.1.f1) && ((r15.2.1.f2.toList == r48.2.1.f2.toList) && true))) (by kernel_rfl)) fun a97 hs98 => ?_
  refine nd_q (c := 31) 2 [1, 5, 7, 8, 11, 14, 15, 16, 17, 80] hs98 [(1, .slice a_list'1 list'1.length c_list'1), (5, .pointer (some ⟨b13, 0, none⟩)), (7, .pointer (some ⟨b45, 0, none⟩)), (8, .int .i64 i'8), (11, .int .i64 r15.2.2.1), (14, .int .i64 r48.2.2.1), (15, .int .i64 r78.1), (16, .int .i64 r78.2.1), (17, .int .i64 r78.2.2), (80, .bool (!((r15.2.1.f0 == r48.2.1.f0) && ((r15.2.1.f1 == r48.2.1.f1) && ((r15.2.1.f2.toList == r48.2.1.f2.toList) && true)))))] (by kernel_rfl) fun a99 hs100 => ?_
  by_cases hb101 : ((r15.2.1.f0 == r48.2.1.f0) && ((r15.2.1.f1 == r48.2.1.f1) && ((r15.2.1.f2.toList == r48.2.1.f2.toList) && true))) = true
  rotate_left
  · rw [if_neg hb101] at hr
    rw [(bF hb101)] at hs100
    refine nd_q (c := 0) 31 [1, 5, 7, 8, 111] hs100 [(1, .slice a_list'1 list'1.length c_list'1), (5, .pointer (some ⟨b13, 0, none⟩)), (7, .pointer (some ⟨b45, 0, none⟩)), (8, .int .i64 i'8), (111, .bool true)] (by kernel_rfl) fun a274 hs275 => ?_
    refine nd_done ?_
    have hst276 := W.St.drop [_] hst85
    have hst277 := W.St.drop [_, _] hst276
    have hs278 := hs275.kept [1, 5, 7, 8, 111] [(1, .slice a_list'1 list'1.length c_list'1), (5, .pointer (some ⟨b13, 0, none⟩)), (7, .pointer (some ⟨b45, 0, none⟩)), (8, .int .i64 i'8), (111, .bool true)] (by kernel_rfl)
    exact f4_j3_ok hbf hbk h_list'1  hQ hX hr hm0 hst277 hs278 hf15_i0 hf48_i0 h_i'8
  rw [if_pos hb101] at hr
  rw [(bT hb101)] at hs100
  refine nd_q (c := 26) 5 [1, 5, 7, 8, 15, 16, 17, 85] hs100 [(1, .slice a_list'1 list'1.length c_list'1), (5, .pointer (some ⟨b13, 0, none⟩)), (7, .pointer (some ⟨b45, 0, none⟩)), (8, .int .i64 i'8), (15, .int .i64 r78.1), (16, .int .i64 r78.2.1), (17, .int .i64 r78.2.2), (85, .bool (r15.2.2.1 != r48.2.2.1))] (by kernel_rfl) fun a102 hs103 => ?_
  by_cases hb104 : r15.2.2.1 = r48.2.2.1
  rotate_left
  · rw [if_neg hb104] at hr
    rw [(neT hb104)] at hs103
    refine nd_q (c := 0) 26 [1, 5, 7, 8, 111] hs103 [(1, .slice a_list'1 list'1.length c_list'1), (5, .pointer (some ⟨b13, 0, none⟩)), (7, .pointer (some ⟨b45, 0, none⟩)), (8, .int .i64 i'8), (111, .bool true)] (by kernel_rfl) fun a269 hs270 => ?_
    refine nd_done ?_
    have hst271 := W.St.drop [_] hst85
    have hst272 := W.St.drop [_, _] hst271
    have hs273 := hs270.kept [1, 5, 7, 8, 111] [(1, .slice a_list'1 list'1.length c_list'1), (5, .pointer (some ⟨b13, 0, none⟩)), (7, .pointer (some ⟨b45, 0, none⟩)), (8, .int .i64 i'8), (111, .bool true)] (by kernel_rfl)
    exact f4_j3_ok hbf hbk h_list'1  hQ hX hr hm0 hst272 hs273 hf15_i0 hf48_i0 h_i'8
  rw [if_pos hb104] at hr
  rw [(neF hb104)] at hs103
  refine nd_q (c := 25) 1 [1, 5, 7, 8, 15, 16, 17, 85, 86] hs103 [(1, .slice a_list'1 list'1.length c_list'1), (5, .pointer (some ⟨b13, 0, none⟩)), (7, .pointer (some ⟨b45, 0, none⟩)), (8, .int .i64 i'8), (15, .int .i64 r78.1), (16, .int .i64 r78.2.1), (17, .int .i64 r78.2.2), (85, .bool false), (86, .pointer (some ⟨b13, 0, none⟩))] (by kernel_rfl) fun a105 hs106 => ?_
  have hz108 := hf15_i0.lend hst85
  have hst109 := W.St.freeze hst85
  have hm110 := Mem.le_add m I15_i0
  generalize hq111 : Mem.add m I15_i0 = m107 at hz108 hst109 hm110
  obtain ⟨aq112_0, cq112_0, rq112_1, aq112_2, cq112_2, hAq112, hfq112_0, hfq112_1, hfq112_2, hfq112_3, hfq112_4, hfq112_5⟩ := hz108
  refine nd_op (op_call (some 87) hs106 (by kernel_rfl) (by kernel_rfl) ((f12_ok hst109 hAq112 hfq112_0 hfq112_1 hfq112_2 hfq112_3 hfq112_4 hfq112_5 hr).mono ?_))
  rintro _ w114 ⟨r113, a113_0_0, c113_0_0, I113_0_0, hst117, rfl, hf113_0_0, hr⟩
  revert hr; intro hr
  refine ⟨_, rfl, fun a115 hs116 => ?_⟩
  have hst120 := W.St.thaw2 hst85 (by rw [hq111]; exact Mem.le.refl _) hst117
  refine nd_q (c := 23) 1 [1, 5, 7, 8, 15, 16, 17, 85, 87, 88] hs116 [(1, .slice a_list'1 list'1.length c_list'1), (5, .pointer (some ⟨b13, 0, none⟩)), (7, .pointer (some ⟨b45, 0, none⟩)), (8, .int .i64 i'8), (15, .int .i64 r78.1), (16, .int .i64 r78.2.1), (17, .int .i64 r78.2.2), (85, .bool false), (87, .slice a113_0_0 r113.length c113_0_0), (88, .pointer (some ⟨b45, 0, none⟩))] (by kernel_rfl) fun a121 hs122 => ?_
  have hst123 := W.St.front [_, _, _] hst120
  have hz125 := hf48_i0.lend hst123
  have hst126 := W.St.freeze hst123
  have hm127 := Mem.le_add m I48_i0
  generalize hq128 : Mem.add m I48_i0 = m124 at hz125 hst126 hm127
  obtain ⟨aq129_1, cq129_1, aq129_2, cq129_2, hAq129, hfq129_0, hfq129_1, hfq129_2, hfq129_3, hfq129_4, hfq129_5⟩ := hz125
  refine nd_op (op_call (some 89) hs122 (by kernel_rfl) (by kernel_rfl) ((f18_ok hst126 hAq129 hfq129_0 hfq129_1 hfq129_2 hfq129_3 hfq129_4 hfq129_5 hr).mono ?_))
  rintro _ w131 ⟨r130, a130_0_0, c130_0_0, I130_0_0, hst134, rfl, hf130_0_0, hr⟩
  revert hr; intro hr
  refine ⟨_, rfl, fun a132 hs133 => ?_⟩
  have hst137 := W.St.thaw2 hst123 (by rw [hq128]; exact Mem.le.refl _) hst134
  have hst138 := W.St.front [_, _, _] hst137
  have hz140 := (OwnSl.flat flat_int hf113_0_0).lend hst138
  have hst141 := W.St.freeze hst138
  have hm142 := Mem.le_add m I113_0_0
  generalize hq143 : Mem.add m I113_0_0 = m139 at hz140 hst141 hm142
  have hst144 := W.St.front [_] hst141
  have hz146 := ((OwnSl.flat flat_int hf130_0_0).mono hm142).lend hst144
  have hst147 := W.St.freeze hst144
  have hm148 := Mem.le_add m139 I130_0_0
  generalize hq149 : Mem.add m139 I130_0_0 = m145 at hz146 hst147 hm148
  refine nd_op (op_call (some 90) hs133 (by kernel_rfl) (by kernel_rfl) ((f17_ok hst147 (hz140.mono hm148) hz146 hr).mono ?_))
  rintro _ w151 ⟨r150, hst154, rfl, hr⟩
  revert hr; intro hr
  refine ⟨_, rfl, fun a152 hs153 => ?_⟩
  have hst157 := W.St.thaw2 hst144 (by rw [hq149]; exact Mem.le.refl _) hst154
  have hst158 := W.St.thaw2 hst138 (by rw [hq143]; exact Mem.le.refl _) hst157
  refine nd_q (c := 18) 3 [1, 5, 7, 8, 15, 16, 17, 93] hs153 [(1, .slice a_list'1 list'1.length c_list'1), (5, .pointer (some ⟨b13, 0, none⟩)), (7, .pointer (some ⟨b45, 0, none⟩)), (8, .int .i64 i'8), (15, .int .i64 r78.1), (16, .int .i64 r78.2.1), (17, .int .i64 r78.2.2), (93, .bool (!r150))] (by kernel_rfl) fun a159 hs160 => ?_
  by_cases hb161 : r150 = true
  rotate_left
  · rw [if_neg hb161] at hr
    rw [(bF hb161)] at hs160
    refine nd_q (c := 0) 18 [1, 5, 7, 8, 111] hs160 [(1, .slice a_list'1 list'1.length c_list'1), (5, .pointer (some ⟨b13, 0, none⟩)), (7, .pointer (some ⟨b45, 0, none⟩)), (8, .int .i64 i'8), (111, .bool true)] (by kernel_rfl) fun a261 hs262 => ?_
    refine nd_done ?_
    have hst263 := W.St.drop [] hst158
    have hst264 := W.St.drop [] hst263
    have hst265 := W.St.drop [_, _] hst264
    have hst266 := W.St.drop [_, _] hst265
    have hst267 := W.St.front [_] hst266
    have hs268 := hs262.kept [1, 5, 7, 8, 111] [(1, .slice a_list'1 list'1.length c_list'1), (5, .pointer (some ⟨b13, 0, none⟩)), (7, .pointer (some ⟨b45, 0, none⟩)), (8, .int .i64 i'8), (111, .bool true)] (by kernel_rfl)
    exact f4_j3_ok hbf hbk h_list'1  hQ hX hr hm0 hst267 hs268 hf15_i0 hf48_i0 h_i'8
  rw [if_pos hb161] at hr
  rw [(bT hb161)] at hs160
  refine nd_q (c := 17) 1 [1, 5, 7, 8, 15, 16, 17, 93, 94] hs160 [(1, .slice a_list'1 list'1.length c_list'1), (5, .pointer (some ⟨b13, 0, none⟩)), (7, .pointer (some ⟨b45, 0, none⟩)), (8, .int .i64 i'8), (15, .int .i64 r78.1), (16, .int .i64 r78.2.1), (17, .int .i64 r78.2.2), (93, .bool (!true)), (94, .pointer (some ⟨b13, 0, none⟩))] (by kernel_rfl) fun a162 hs163 => ?_
  have hst164 := W.St.front [_, _, _] hst158
  have hz166 := hf15_i0.lend hst164
  have hst167 := W.St.freeze hst164
  have hm168 := Mem.le_add m I15_i0
  generalize hq169 : Mem.add m I15_i0 = m165 at hz166 hst167 hm168
  obtain ⟨aq170_0, cq170_0, rq170_1, aq170_2, cq170_2, hAq170, hfq170_0, hfq170_1, hfq170_2, hfq170_3, hfq170_4, hfq170_5⟩ := hz166
  refine nd_op (op_call (some 95) hs163 (by kernel_rfl) (by kernel_rfl) ((f19_ok hst167 hAq170 hfq170_0 hfq170_1 hfq170_2 hfq170_3 hfq170_4 hfq170_5 hr).mono ?_))
  rintro _ w172 ⟨r171, a171_0_0, c171_0_0, I171_0_0, hst175, rfl, hf171_0_0, hr⟩
  revert hr; intro hr
  refine ⟨_, rfl, fun a173 hs174 => ?_⟩
  have hst178 := W.St.thaw2 hst164 (by rw [hq169]; exact Mem.le.refl _) hst175
  refine nd_q (c := 15) 1 [1, 5, 7, 8, 15, 16, 17, 93, 95, 96] hs174 [(1, .slice a_list'1 list'1.length c_list'1), (5, .pointer (some ⟨b13, 0, none⟩)), (7, .pointer (some ⟨b45, 0, none⟩)), (8, .int .i64 i'8), (15, .int .i64 r78.1), (16, .int .i64 r78.2.1), (17, .int .i64 r78.2.2), (93, .bool (!true)), (95, .slice a171_0_0 r171.length c171_0_0), (96, .pointer (some ⟨b45, 0, none⟩))] (by kernel_rfl) fun a179 hs180 => ?_
  have hst181 := W.St.front [_, _, _, _] hst178
  have hz183 := hf48_i0.lend hst181
  have hst184 := W.St.freeze hst181
  have hm185 := Mem.le_add m I48_i0
  generalize hq186 : Mem.add m I48_i0 = m182 at hz183 hst184 hm185
  obtain ⟨aq187_1, cq187_1, aq187_2, cq187_2, hAq187, hfq187_0, hfq187_1, hfq187_2, hfq187_3, hfq187_4, hfq187_5⟩ := hz183
  refine nd_op (op_call (some 97) hs180 (by kernel_rfl) (by kernel_rfl) ((f20_ok hst184 hAq187 hfq187_0 hfq187_1 hfq187_2 hfq187_3 hfq187_4 hfq187_5 hr).mono ?_))
  rintro _ w189 ⟨r188, a188_0_0, c188_0_0, I188_0_0, hst192, rfl, hf188_0_0, hr⟩
  revert hr; intro hr
  refine ⟨_, rfl, fun a190 hs191 => ?_⟩
  have hst195 := W.St.thaw2 hst181 (by rw [hq186]; exact Mem.le.refl _) hst192
  have hst196 := W.St.front [_, _, _] hst195
  have hz198 := (OwnSl.flat flat_int hf171_0_0).lend hst196
  have hst199 := W.St.freeze hst196
  have hm200 := Mem.le_add m I171_0_0
  generalize hq201 : Mem.add m I171_0_0 = m197 at hz198 hst199 hm200
  have hst202 := W.St.front [_] hst199
  have hz204 := ((OwnSl.flat flat_int hf188_0_0).mono hm200).lend hst202
  have hst205 := W.St.freeze hst202
  have hm206 := Mem.le_add m197 I188_0_0
  generalize hq207 : Mem.add m197 I188_0_0 = m203 at hz204 hst205 hm206
  refine nd_op (op_call (some 98) hs191 (by kernel_rfl) (by kernel_rfl) ((f17_ok hst205 (hz198.mono hm206) hz204 hr).mono ?_))
  rintro _ w209 ⟨r208, hst212, rfl, hr⟩
  revert hr; intro hr
  refine ⟨_, rfl, fun a210 hs211 => ?_⟩
  have hst215 := W.St.thaw2 hst202 (by rw [hq207]; exact Mem.le.refl _) hst212
  have hst216 := W.St.thaw2 hst196 (by rw [hq201]; exact Mem.le.refl _) hst215
  refine nd_q (c := 10) 3 [1, 5, 7, 8, 15, 16, 17, 101] hs211 [(1, .slice a_list'1 list'1.length c_list'1), (5, .pointer (some ⟨b13, 0, none⟩)), (7, .pointer (some ⟨b45, 0, none⟩)), (8, .int .i64 i'8), (15, .int .i64 r78.1), (16, .int .i64 r78.2.1), (17, .int .i64 r78.2.2), (101, .bool (!r208))] (by kernel_rfl) fun a217 hs218 => ?_
  by_cases hb219 : r208 = true
  rotate_left
  · rw [if_neg hb219] at hr
    rw [(bF hb219)] at hs218
    refine nd_q (c := 0) 10 [1, 5, 7, 8, 111] hs218 [(1, .slice a_list'1 list'1.length c_list'1), (5, .pointer (some ⟨b13, 0, none⟩)), (7, .pointer (some ⟨b45, 0, none⟩)), (8, .int .i64 i'8), (111, .bool true)] (by kernel_rfl) fun a251 hs252 => ?_
    refine nd_done ?_
    have hst253 := W.St.drop [] hst216
    have hst254 := W.St.drop [] hst253
    have hst255 := W.St.drop [_, _] hst254
    have hst256 := W.St.drop [_, _] hst255
    have hst257 := W.St.drop [_, _] hst256
    have hst258 := W.St.drop [_, _] hst257
    have hst259 := W.St.front [_] hst258
    have hs260 := hs252.kept [1, 5, 7, 8, 111] [(1, .slice a_list'1 list'1.length c_list'1), (5, .pointer (some ⟨b13, 0, none⟩)), (7, .pointer (some ⟨b45, 0, none⟩)), (8, .int .i64 i'8), (111, .bool true)] (by kernel_rfl)
    exact f4_j3_ok hbf hbk h_list'1  hQ hX hr hm0 hst259 hs260 hf15_i0 hf48_i0 h_i'8
  rw [if_pos hb219] at hr
  rw [(bT hb219)] at hs218
  refine nd_q (c := 3) 7 [1, 5, 7, 8, 101, 105, 108] hs218 [(1, .slice a_list'1 list'1.length c_list'1), (5, .pointer (some ⟨b13, 0, none⟩)), (7, .pointer (some ⟨b45, 0, none⟩)), (8, .int .i64 i'8), (101, .bool (!true)), (105, .agg #[.int .i64 r78.1, .int .i64 r78.2.1, .int .i64 r78.2.2]), (108, .pointer (some ⟨b45, 3, none⟩))] (by kernel_rfl) fun a220 hs221 => ?_
  have hst222 := W.St.front [_, _] hst216
  obtain ⟨aq223_1, cq223_1, Iq223_1, aq223_2, cq223_2, Iq223_2, hI224, hfq223_0, hfq223_1, hfq223_2, hfq223_3, hfq223_4, hfq223_5⟩ := id hf48_i0
  have hst225 := hst222
  rw [hI224] at hst225
  have hst226 := hst225.split.split
  refine nd_v (i := 37) (c := 2) 109 (.agg #[.int .i64 r48.2.2.2.f3.f0, .int .i64 r48.2.2.2.f3.f1, .int .i64 r48.2.2.2.f3.f2]) hs221 (by kernel_rfl) (ldN_run (P := Try.prog) (ad := ⟨b45, 3, none⟩) (l := [.int .i64 r48.2.2.2.f3.f0, .int .i64 r48.2.2.2.f3.f1, .int .i64 r48.2.2.2.f3.f2]) 3 rfl (by kernel_rfl) (W.St.ocellsAt [] hst226 3 (l := [.int .i64 r48.2.2.2.f3.f0, .int .i64 r48.2.2.2.f3.f1, .int .i64 r48.2.2.2.f3.f2]) rfl)) fun a227 hs228 => ?_
  refine nd_v (i := 38) (c := 1) 110 (.bool (!((r78.1 == r48.2.2.2.f3.f0) && ((r78.2.1 == r48.2.2.2.f3.f1) && ((r78.2.2 == r48.2.2.2.f3.f2) && true))))) hs228 (by kernel_rfl) (aeq_run (P := Try.prog) false ((r78.1 == r48.2.2.2.f3.f0) && ((r78.2.1 == r48.2.2.2.f3.f1) && ((r78.2.2 == r48.2.2.2.f3.f2) && true))) (by kernel_rfl)) fun a231 hs232 => ?_
  refine nd_q (c := 0) 1 [1, 5, 7, 8, 111] hs232 [(1, .slice a_list'1 list'1.length c_list'1), (5, .pointer (some ⟨b13, 0, none⟩)), (7, .pointer (some ⟨b45, 0, none⟩)), (8, .int .i64 i'8), (111, .bool (!((r78.1 == r48.2.2.2.f3.f0) && ((r78.2.1 == r48.2.2.2.f3.f1) && ((r78.2.2 == r48.2.2.2.f3.f2) && true)))))] (by kernel_rfl) fun a233 hs234 => ?_
  refine nd_done ?_
  have hst239 := W.St.front [_, _] hst226
  have hst240 := W.St.front [_, _] hst239
  have hst241 := W.St.front [_, _] hst240
  have hst242 := hst241.join.join
  rw [← hI224] at hst242
  have hst243 := W.St.drop [_] hst242
  have hst244 := W.St.drop [_] hst243
  have hst245 := W.St.drop [_, _] hst244
  have hst246 := W.St.drop [_, _] hst245
  have hst247 := W.St.drop [_, _] hst246
  have hst248 := W.St.drop [_, _] hst247
  have hst249 := W.St.front [_] hst248
  have hs250 := hs234.kept [1, 5, 7, 8, 111] [(1, .slice a_list'1 list'1.length c_list'1), (5, .pointer (some ⟨b13, 0, none⟩)), (7, .pointer (some ⟨b45, 0, none⟩)), (8, .int .i64 i'8), (111, .bool (!((r78.1 == r48.2.2.2.f3.f0) && ((r78.2.1 == r48.2.2.2.f3.f1) && ((r78.2.2 == r48.2.2.2.f3.f2) && true)))))] (by kernel_rfl)
  exact f4_j3_ok hbf hbk h_list'1  hQ hX hr hm0 hst249 hs250 hf15_i0 hf48_i0 h_i'8
def f4_j1_Y (z : Base) (m0 : Mem) (G : List Grp) (b : Frame) (cs : List Frame) (R : Ending → World → Prop) (a_x1 : Option Addr) (c_x1 : Nat) (x0 : Int) (x1 : (List S40)) (t'30 : Bool) : Prop := ∀ {m : Mem} {w : World} {a : Act} , m0.le m → W.St z w m (G) → Has 112 a [(0, .int .i64 x0), (1, .slice a_x1 x1.length c_x1), (30, .bool t'30)] →  Reach Try.prog b cs R [.code (sub [1, 1, 0, 1] f4_c), .code (sub [1, 1, 1] f4_c)] a w
def f4_j1 (x0 : Int) (x1 : (List S40)) (Q : Bool → Prop) (t'30 : Bool) : Prop := if t'30 = true then (Q true) else (f10 x0 fun r6 => if r6.2 = (0 : Int) then (f14 x0 fun r20 => f4_l2 x1 (Q true) Q r6.1 r20 (0 : Int)) else (Q false))
theorem f4_j1_ok {z : Base} {m0 : Mem} {G : List Grp} {b : Frame} {cs : List Frame} {R : Ending → World → Prop} {a_x1 : Option Addr} {c_x1 : Nat} {x0 : Int} {x1 : (List S40)} {Q : Bool → Prop} (hbf : b.fn = 4) (hbk : b.kind = .normal) (h_x0 : InR .i64 x0) (h_x1 : Sl k40 48 m0 a_x1 c_x1 x1)  (hQ : ∀ {r : Bool}, Q r → f4_YR z m0 G R  r) : ∀ {t'30 : Bool}, f4_j1 x0 x1 Q t'30 → f4_j1_Y z m0 G b cs R a_x1 c_x1 x0 x1 t'30 := by
  intro t'30 hr m w a0  hm0 hst hs0 
  unfold f4_j1 at hr
  by_cases hb1 : t'30 = true
  · rw [if_pos hb1] at hr
    rw [(bT hb1)] at hs0
    refine to_then (.tmp 30) (sub [1, 1, 0, 1, 0] f4_c) (sub [1, 1, 0, 1, 1] f4_c) (by kernel_rfl) hs0 (by kernel_rfl) ?_
    refine to_seq (sub [1, 1, 0, 1, 0, 0] f4_c) (sub [1, 1, 0, 1, 0, 1] f4_c) (by kernel_rfl) ?_
    refine to_nd 4 1 (rops (sub [1, 1, 0, 1, 0, 0] f4_c)) (by kernel_rfl) (by kernel_rfl) ?_
    refine nd_q (c := 0) 1 [4] hs0 [(4, .bool true)] (by kernel_rfl) fun a2 hs3 => ?_
    refine nd_done ?_
    exact to_ret (v := .bool true) (by kernel_rfl) hbf Try.func4 hbk hs3 (by kernel_rfl) (hQ hr hm0 hst )
  rw [if_neg hb1] at hr
  rw [(bF hb1)] at hs0
  refine to_else (.tmp 30) (sub [1, 1, 0, 1, 0] f4_c) (sub [1, 1, 0, 1, 1] f4_c) (by kernel_rfl) hs0 (by kernel_rfl) ?_
  refine to_skip (by kernel_rfl) ?_
  refine to_seq (sub [1, 1, 1, 0] f4_c) (sub [1, 1, 1, 1] f4_c) (by kernel_rfl) ?_
  refine to_nd 5 7 (rops (sub [1, 1, 1, 0] f4_c)) (by kernel_rfl) (by kernel_rfl) ?_
  refine nd_q (c := 6) 1 [0, 1, 32] hs0 [(0, .int .i64 x0), (1, .slice a_x1 x1.length c_x1), (32, .int .i64 x0)] (by kernel_rfl) fun a4 hs5 => ?_
  refine nd_op (op_call (some 33) hs5 (by kernel_rfl) (by kernel_rfl) ((f10_ok hst h_x0 hr).mono ?_))
  rintro _ w7 ⟨r6, p6_0_0, I6_0_0, hst10, rfl, hf6_0_0, hf6_1_0, hr⟩
  revert hr; intro hr
  refine ⟨_, rfl, fun a8 hs9 => ?_⟩
  refine nd_q (c := 0) 5 [0, 1, 5, 6] hs9 [(0, .int .i64 x0), (1, .slice a_x1 x1.length c_x1), (5, .pointer p6_0_0), (6, .int .i64 r6.2)] (by kernel_rfl) fun a13 hs14 => ?_
  refine nd_done ?_
  refine to_seq (sub [1, 1, 1, 1, 0] f4_c) (sub [1, 1, 1, 1, 1] f4_c) (by kernel_rfl) ?_
  refine to_seq (sub [1, 1, 1, 1, 0, 0] f4_c) (sub [1, 1, 1, 1, 0, 1] f4_c) (by kernel_rfl) ?_
  refine to_nd 6 2 (rops (sub [1, 1, 1, 1, 0, 0] f4_c)) (by kernel_rfl) (by kernel_rfl) ?_
  refine nd_q (c := 0) 2 [0, 1, 5, 37] hs14 [(0, .int .i64 x0), (1, .slice a_x1 x1.length c_x1), (5, .pointer p6_0_0), (37, .bool (r6.2 != (0 : Int)))] (by kernel_rfl) fun a15 hs16 => ?_
  refine nd_done ?_
  by_cases hb17 : r6.2 = (0 : Int)
  rotate_left
  · rw [if_neg hb17] at hr
    rw [(neT hb17)] at hs16
    refine to_then (.tmp 37) (sub [1, 1, 1, 1, 0, 1, 0] f4_c) (sub [1, 1, 1, 1, 0, 1, 1] f4_c) (by kernel_rfl) hs16 (by kernel_rfl) ?_
    refine to_seq (sub [1, 1, 1, 1, 0, 1, 0, 0] f4_c) (sub [1, 1, 1, 1, 0, 1, 0, 1] f4_c) (by kernel_rfl) ?_
    refine to_nd 7 1 (rops (sub [1, 1, 1, 1, 0, 1, 0, 0] f4_c)) (by kernel_rfl) (by kernel_rfl) ?_
    refine nd_q (c := 0) 1 [4] hs16 [(4, .bool false)] (by kernel_rfl) fun a42 hs43 => ?_
    refine nd_done ?_
    have hst44 := W.St.drop [] hst10
    exact to_ret (v := .bool false) (by kernel_rfl) hbf Try.func4 hbk hs43 (by kernel_rfl) (hQ hr hm0 hst44 )
  rw [if_pos hb17] at hr
  rw [(neF hb17)] at hs16
  refine to_else (.tmp 37) (sub [1, 1, 1, 1, 0, 1, 0] f4_c) (sub [1, 1, 1, 1, 0, 1, 1] f4_c) (by kernel_rfl) hs16 (by kernel_rfl) ?_
  refine to_skip (by kernel_rfl) ?_
  refine to_seq (sub [1, 1, 1, 1, 1, 0] f4_c) (sub [1, 1, 1, 1, 1, 1] f4_c) (by kernel_rfl) ?_
  refine to_nd 8 3 (rops (sub [1, 1, 1, 1, 1, 0] f4_c)) (by kernel_rfl) (by kernel_rfl) ?_
  refine nd_q (c := 2) 1 [1, 5, 38] hs16 [(1, .slice a_x1 x1.length c_x1), (5, .pointer p6_0_0), (38, .int .i64 x0)] (by kernel_rfl) fun a18 hs19 => ?_
  refine nd_op (op_call (some 39) hs19 (by kernel_rfl) (by kernel_rfl) ((f14_ok hst10 h_x0 hr).mono ?_))
  rintro _ w21 ⟨r20, p20_0_0, I20_0_0, hst24, rfl, hf20_0_0, hr⟩
  revert hr; intro hr
  refine ⟨_, rfl, fun a22 hs23 => ?_⟩
  refine nd_q (c := 0) 1 [1, 5, 7] hs23 [(1, .slice a_x1 x1.length c_x1), (5, .pointer p6_0_0), (7, .pointer p20_0_0)] (by kernel_rfl) fun a27 hs28 => ?_
  refine nd_done ?_
  refine to_seq (sub [1, 1, 1, 1, 1, 1, 0] f4_c) (sub [1, 1, 1, 1, 1, 1, 1] f4_c) (by kernel_rfl) ?_
  refine to_seq (sub [1, 1, 1, 1, 1, 1, 0, 0] f4_c) (sub [1, 1, 1, 1, 1, 1, 0, 1] f4_c) (by kernel_rfl) ?_
  refine to_nd 9 1 (rops (sub [1, 1, 1, 1, 1, 1, 0, 0] f4_c)) (by kernel_rfl) (by kernel_rfl) ?_
  refine nd_q (c := 0) 1 [1, 5, 7, 8] hs28 [(1, .slice a_x1 x1.length c_x1), (5, .pointer p6_0_0), (7, .pointer p20_0_0), (8, .int .i64 (0 : Int))] (by kernel_rfl) fun a29 hs30 => ?_
  refine nd_done ?_
  refine to_block 0 (sub [1, 1, 1, 1, 1, 1, 0, 1, 0] f4_c) (by kernel_rfl) ?_
  refine to_loop (sub [1, 1, 1, 1, 1, 1, 0, 1, 0, 0] f4_c) (by kernel_rfl) ?_
  have hst31 := W.St.front [_] hst24
  have hs32 := hs30.kept [1, 5, 7, 8] [(1, .slice a_x1 x1.length c_x1), (5, .pointer p6_0_0), (7, .pointer p20_0_0), (8, .int .i64 (0 : Int))] (by kernel_rfl)
  refine f4_l2_ok hbf hbk (h_x1.mono hm0)  ?_ (fun hq => f4_YR_mono hm0 (hQ hq)) hr (Mem.le.refl _) hst31 hs32 hf6_0_0 hf20_0_0 (inr_of (by kernel_rfl))
  intro _ hr
  intro m34 w36 a38  hm35 hst37 hs39 
  refine to_seq (sub [1, 1, 1, 1, 1, 1, 1, 0] f4_c) (sub [1, 1, 1, 1, 1, 1, 1, 1] f4_c) (by kernel_rfl) ?_
  refine to_nd 17 1 (rops (sub [1, 1, 1, 1, 1, 1, 1, 0] f4_c)) (by kernel_rfl) (by kernel_rfl) ?_
  refine nd_q (c := 0) 1 [4] hs39 [(4, .bool true)] (by kernel_rfl) fun a40 hs41 => ?_
  refine nd_done ?_
  exact to_ret (v := .bool true) (by kernel_rfl) hbf Try.func4 hbk hs41 (by kernel_rfl) (hQ hr (hm0.trans hm35) hst37 )
def f4  (x0 : Int) (x1 : (List S40)) : M Bool := fun Q => f9 fun r3 => if r3 = true then (if x0 < (1 : Int) then (f4_j1 x0 x1 Q true) else (if x0 > (16 : Int) then (f4_j1 x0 x1 Q true) else (f13 x1 (60 : Int) fun r27 => f4_j1 x0 x1 Q (!r27)))) else (Q false)
theorem f4_ok  {z : Base} {w : World} {m : Mem} {G : List Grp} {a_x1 : Option Addr} {c_x1 : Nat} {x0 : Int} {x1 : (List S40)} {Q : Bool → Prop} (hst : W.St z w m (G)) (h_x0 : InR .i64 x0) (h_x1 : Sl k40 48 m a_x1 c_x1 x1) (hr : f4  x0 x1 Q) : Calls Try.prog 4 #[.int .i64 x0, .slice a_x1 x1.length c_x1] w (f4_post z m G  Q) := by
  refine calls_begin (c := f4_c) (n := 112) [.int .i64 x0, .slice a_x1 x1.length c_x1] Try.func4 (by kernel_rfl) Try.ntmps4 (Nat.le_of_ble_eq_true rfl) fun b cs a0 hbf hbk hs0 => ?_
  have hm0 := Mem.le.refl m
  have hQ : ∀ {r : Bool}, Q r → f4_YR z m G (f4_post z m G  Q)  r := by intro r hq m' w'  hm' hst' ; exact ⟨r,  W.St.less hm' hst', rfl, hq⟩
  unfold f4 at hr
  refine to_seq (sub [0] f4_c) (sub [1] f4_c) (by kernel_rfl) ?_
  refine to_nd 0 1 (rops (sub [0] f4_c)) (by kernel_rfl) (by kernel_rfl) ?_
  refine nd_q (c := 0) 1 [0, 1] hs0 [(0, .int .i64 x0), (1, .slice a_x1 x1.length c_x1)] (by kernel_rfl) fun a1 hs2 => ?_
  refine nd_done ?_
  refine to_seq (sub [1, 0] f4_c) (sub [1, 1] f4_c) (by kernel_rfl) ?_
  refine to_seq (sub [1, 0, 0] f4_c) (sub [1, 0, 1] f4_c) (by kernel_rfl) ?_
  refine to_nd 1 2 (rops (sub [1, 0, 0] f4_c)) (by kernel_rfl) (by kernel_rfl) ?_
  refine nd_op (op_call (some 18) hs2 (by kernel_rfl) (by kernel_rfl) ((f9_ok hst hr).mono ?_))
  rintro _ w4 ⟨r3, hst7, rfl, hr⟩
  revert hr; intro hr
  refine ⟨_, rfl, fun a5 hs6 => ?_⟩
  refine nd_q (c := 0) 1 [0, 1, 19] hs6 [(0, .int .i64 x0), (1, .slice a_x1 x1.length c_x1), (19, .bool (!r3))] (by kernel_rfl) fun a10 hs11 => ?_
  refine nd_done ?_
  by_cases hb12 : r3 = true
  rotate_left
  · rw [if_neg hb12] at hr
    rw [(bF hb12)] at hs11
    refine to_then (.tmp 19) (sub [1, 0, 1, 0] f4_c) (sub [1, 0, 1, 1] f4_c) (by kernel_rfl) hs11 (by kernel_rfl) ?_
    refine to_seq (sub [1, 0, 1, 0, 0] f4_c) (sub [1, 0, 1, 0, 1] f4_c) (by kernel_rfl) ?_
    refine to_nd 2 1 (rops (sub [1, 0, 1, 0, 0] f4_c)) (by kernel_rfl) (by kernel_rfl) ?_
    refine nd_q (c := 0) 1 [4] hs11 [(4, .bool false)] (by kernel_rfl) fun a37 hs38 => ?_
    refine nd_done ?_
    exact to_ret (v := .bool false) (by kernel_rfl) hbf Try.func4 hbk hs38 (by kernel_rfl) (hQ hr (Mem.le.refl _) hst7 )
  rw [if_pos hb12] at hr
  rw [(bT hb12)] at hs11
  refine to_else (.tmp 19) (sub [1, 0, 1, 0] f4_c) (sub [1, 0, 1, 1] f4_c) (by kernel_rfl) hs11 (by kernel_rfl) ?_
  refine to_skip (by kernel_rfl) ?_
  refine to_seq (sub [1, 1, 0] f4_c) (sub [1, 1, 1] f4_c) (by kernel_rfl) ?_
  refine to_seq (sub [1, 1, 0, 0] f4_c) (sub [1, 1, 0, 1] f4_c) (by kernel_rfl) ?_
  refine to_nd 3 11 (rops (sub [1, 1, 0, 0] f4_c)) (by kernel_rfl) (by kernel_rfl) ?_
  refine nd_q (c := 8) 3 [0, 1, 22] hs11 [(0, .int .i64 x0), (1, .slice a_x1 x1.length c_x1), (22, .bool (decide (x0 < (1 : Int))))] (by kernel_rfl) fun a13 hs14 => ?_
  by_cases hb15 : x0 < (1 : Int)
  · rw [if_pos hb15] at hr
    rw [(decide_eq_true hb15)] at hs14
    refine nd_q (c := 0) 8 [0, 1, 30] hs14 [(0, .int .i64 x0), (1, .slice a_x1 x1.length c_x1), (30, .bool true)] (by kernel_rfl) fun a16 hs17 => ?_
    refine nd_done ?_
    have hs18 := hs17.kept [0, 1, 30] [(0, .int .i64 x0), (1, .slice a_x1 x1.length c_x1), (30, .bool true)] (by kernel_rfl)
    exact f4_j1_ok hbf hbk h_x0 h_x1  hQ hr (Mem.le.refl _) hst7 hs18 
  rw [if_neg hb15] at hr
  rw [(decide_eq_false hb15)] at hs14
  refine nd_q (c := 4) 4 [0, 1, 26] hs14 [(0, .int .i64 x0), (1, .slice a_x1 x1.length c_x1), (26, .bool (decide (x0 > (16 : Int))))] (by kernel_rfl) fun a19 hs20 => ?_
  by_cases hb21 : x0 > (16 : Int)
  · rw [if_pos hb21] at hr
    rw [(decide_eq_true hb21)] at hs20
    refine nd_q (c := 0) 4 [0, 1, 30] hs20 [(0, .int .i64 x0), (1, .slice a_x1 x1.length c_x1), (30, .bool true)] (by kernel_rfl) fun a22 hs23 => ?_
    refine nd_done ?_
    have hs24 := hs23.kept [0, 1, 30] [(0, .int .i64 x0), (1, .slice a_x1 x1.length c_x1), (30, .bool true)] (by kernel_rfl)
    exact f4_j1_ok hbf hbk h_x0 h_x1  hQ hr (Mem.le.refl _) hst7 hs24 
  rw [if_neg hb21] at hr
  rw [(decide_eq_false hb21)] at hs20
  refine nd_q (c := 3) 1 [0, 1, 26, 27] hs20 [(0, .int .i64 x0), (1, .slice a_x1 x1.length c_x1), (26, .bool false), (27, .slice a_x1 x1.length c_x1)] (by kernel_rfl) fun a25 hs26 => ?_
  refine nd_op (op_call (some 28) hs26 (by kernel_rfl) (by kernel_rfl) ((f13_ok hst7 h_x1 (inr_of (by kernel_rfl)) hr).mono ?_))
  rintro _ w28 ⟨r27, hst31, rfl, hr⟩
  revert hr; intro hr
  refine ⟨_, rfl, fun a29 hs30 => ?_⟩
  refine nd_q (c := 0) 2 [0, 1, 30] hs30 [(0, .int .i64 x0), (1, .slice a_x1 x1.length c_x1), (30, .bool (!r27))] (by kernel_rfl) fun a34 hs35 => ?_
  refine nd_done ?_
  have hs36 := hs35.kept [0, 1, 30] [(0, .int .i64 x0), (1, .slice a_x1 x1.length c_x1), (30, .bool (!r27))] (by kernel_rfl)
  exact f4_j1_ok hbf hbk h_x0 h_x1  hQ hr (Mem.le.refl _) hst31 hs36 
def PureChannelPlays : Prop := ∀ (x0 : Int) (x1 : (List S40)), (InR .i64) x0 → (WL W40 48) x1 →  f4 x0 x1 (fun r => r = true)
end Go.Proofs.Ytcnlbnccghjeaaa.W
