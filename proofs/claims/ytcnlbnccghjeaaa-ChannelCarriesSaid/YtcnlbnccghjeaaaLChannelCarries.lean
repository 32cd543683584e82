/- Printed by gen2.py: a law as a Lean function, and the proof that the call comes to it. Conditions: none. -/
import Derived.Test.YtcnlbnccghjeaaaF7
set_option linter.unusedVariables false
set_option linter.unusedSimpArgs false
set_option maxRecDepth 100000
namespace Go.Proofs.Ytcnlbnccghjeaaa.W
open Go

/-! ### 6: salchow/salchowlaw50.ChannelCarries -/
noncomputable def f6_c : Code := codeOf Try.f6
def f6_post (z : Base) (m : Mem) (G : List Grp)  (Q : Bool → Prop) : Ending → World → Prop := fun e w' => ∃ (r : Bool) , W.St z w' m (G) ∧ e = .returned (.bool r) ∧ Q r
def f6_YR (z : Base) (m0 : Mem) (G : List Grp) (R : Ending → World → Prop)  (r : Bool) : Prop := ∀ {m : Mem} {w : World} , m0.le m → W.St z w m (G) →  R (.returned (.bool r)) w
theorem f6_YR_mono {z : Base} {m0 m1 : Mem} {G : List Grp} {R : Ending → World → Prop}  {r : Bool} (hm : m0.le m1) (h : f6_YR z m0 G R  r) : f6_YR z m1 G R  r := by
  intro m w  hm'
  exact h (hm.trans hm')
def f6_l2_Y (z : Base) (m0 : Mem) (G : List Grp) (b : Frame) (cs : List Frame) (R : Ending → World → Prop) (a_list'1 : Option Addr) (c_list'1 : Nat) (displays'0 : Int) (list'1 : (List S40)) (from'2 : Int) (to'3 : Int) (frame'4 : ByteArray) (at'5 : Int) (b'6 : Int) (n'17 : Int) (c'15b : S62) (i'19 : Int) : Prop := ∀ {m : Mem} {w : World} {a : Act} {b_c'15b : Nat} {I_c'15b : Grp}, m0.le m → W.St z w m (I_c'15b :: G) → Has 199 a [(0, .int .i64 displays'0), (1, .slice a_list'1 list'1.length c_list'1), (2, .int .i64 from'2), (3, .int .i64 to'3), (4, .string frame'4), (5, .int .i64 at'5), (6, .int .u8 b'6), (15, .pointer (some ⟨b_c'15b, 0, none⟩)), (17, .int .i64 n'17), (19, .int .i64 i'19)] → (OwnS62 m b_c'15b I_c'15b c'15b) → (InR .i64 i'19) → Reach Try.prog b cs R [.code (sub [1, 1, 1, 1, 1, 1, 0, 1, 0, 0] f6_c), .inLoop (sub [1, 1, 1, 1, 1, 1, 0, 1, 0, 0] f6_c), .inBlock 0, .code (sub [1, 1, 1, 1, 1, 1, 1] f6_c)] a w
def f6_j4_Y (z : Base) (m0 : Mem) (G : List Grp) (b : Frame) (cs : List Frame) (R : Ending → World → Prop) (a_list'1 : Option Addr) (c_list'1 : Nat) (displays'0 : Int) (list'1 : (List S40)) (from'2 : Int) (to'3 : Int) (frame'4 : ByteArray) (at'5 : Int) (b'6 : Int) (n'17 : Int) (c'15b : S62) (i'19 : Int) : Prop := ∀ {m : Mem} {w : World} {a : Act} {b_c'15b : Nat} {I_c'15b : Grp}, m0.le m → W.St z w m (I_c'15b :: G) → Has 199 a [(0, .int .i64 displays'0), (1, .slice a_list'1 list'1.length c_list'1), (2, .int .i64 from'2), (3, .int .i64 to'3), (4, .string frame'4), (5, .int .i64 at'5), (6, .int .u8 b'6), (15, .pointer (some ⟨b_c'15b, 0, none⟩)), (17, .int .i64 n'17), (19, .int .i64 i'19)] → (OwnS62 m b_c'15b I_c'15b c'15b) → (InR .i64 i'19) → Reach Try.prog b cs R [.code (sub [1, 1, 1, 1, 1, 1, 0, 1, 0, 0, 1, 1] f6_c), .inLoop (sub [1, 1, 1, 1, 1, 1, 0, 1, 0, 0] f6_c), .inBlock 0, .code (sub [1, 1, 1, 1, 1, 1, 1] f6_c)] a w
def f6_j4 (displays'0 : Int) (list'1 : (List S40)) (from'2 : Int) (to'3 : Int) (frame'4 : ByteArray) (at'5 : Int) (b'6 : Int) (n'17 : Int) (X : S62 → Int → Prop) (c'15b : S62) (i'19 : Int) : Prop := X c'15b (w64 (i'19 + (1 : Int)))
theorem f6_j4_ok {z : Base} {m0 : Mem} {G : List Grp} {b : Frame} {cs : List Frame} {R : Ending → World → Prop} {a_list'1 : Option Addr} {c_list'1 : Nat} {displays'0 : Int} {list'1 : (List S40)} {from'2 : Int} {to'3 : Int} {frame'4 : ByteArray} {at'5 : Int} {b'6 : Int} {n'17 : Int} {X : S62 → Int → Prop} (hbf : b.fn = 6) (hbk : b.kind = .normal) (h_displays'0 : InR .i64 displays'0) (h_list'1 : Sl k40 48 m0 a_list'1 c_list'1 list'1) (h_from'2 : InR .i64 from'2) (h_to'3 : InR .i64 to'3) (h_frame'4 : frame'4.size ≤ reach) (h_at'5 : InR .i64 at'5) (h_b'6 : InR .u8 b'6) (h_n'17 : InR .i64 n'17)  (hX : ∀ {c'15b : S62} {i'19 : Int}, X c'15b i'19 → f6_l2_Y z m0 G b cs R a_list'1 c_list'1 displays'0 list'1 from'2 to'3 frame'4 at'5 b'6 n'17 c'15b i'19) : ∀ {c'15b : S62} {i'19 : Int}, f6_j4 displays'0 list'1 from'2 to'3 frame'4 at'5 b'6 n'17 X c'15b i'19 → f6_j4_Y z m0 G b cs R a_list'1 c_list'1 displays'0 list'1 from'2 to'3 frame'4 at'5 b'6 n'17 c'15b i'19 := by
  intro c'15b i'19 hr m w a0 b_c'15b I_c'15b hm0 hst hs0 h_c'15b h_i'19
  unfold f6_j4 at hr
  refine to_nd 11 3 (rops (sub [1, 1, 1, 1, 1, 1, 0, 1, 0, 0, 1, 1] f6_c)) (by kernel_rfl) (by kernel_rfl) ?_
  refine nd_q (c := 0) 3 [0, 1, 2, 3, 4, 5, 6, 15, 17, 19] hs0 [(0, .int .i64 displays'0), (1, .slice a_list'1 list'1.length c_list'1), (2, .int .i64 from'2), (3, .int .i64 to'3), (4, .string frame'4), (5, .int .i64 at'5), (6, .int .u8 b'6), (15, .pointer (some ⟨b_c'15b, 0, none⟩)), (17, .int .i64 n'17), (19, .int .i64 (w64 (i'19 + (1 : Int))))] (by kernel_rfl) fun a1 hs2 => ?_
  refine nd_done ?_
  refine reach_inLoop ?_
  have hs3 := hs2.kept [0, 1, 2, 3, 4, 5, 6, 15, 17, 19] [(0, .int .i64 displays'0), (1, .slice a_list'1 list'1.length c_list'1), (2, .int .i64 from'2), (3, .int .i64 to'3), (4, .string frame'4), (5, .int .i64 at'5), (6, .int .u8 b'6), (15, .pointer (some ⟨b_c'15b, 0, none⟩)), (17, .int .i64 n'17), (19, .int .i64 (w64 (i'19 + (1 : Int))))] (by kernel_rfl)
  exact hX hr hm0 hst hs3 h_c'15b (wrap_in .i64 _)
def f6_j3_Y (z : Base) (m0 : Mem) (G : List Grp) (b : Frame) (cs : List Frame) (R : Ending → World → Prop) (a_list'1 : Option Addr) (c_list'1 : Nat) (displays'0 : Int) (list'1 : (List S40)) (from'2 : Int) (to'3 : Int) (frame'4 : ByteArray) (at'5 : Int) (b'6 : Int) (n'17 : Int) (c'15b : S62) (i'19 : Int) (x'20b : S40) (t'82 : Bool) : Prop := ∀ {m : Mem} {w : World} {a : Act} {b_c'15b : Nat} {I_c'15b : Grp} {b_x'20b : Nat}, m0.le m → W.St z w m (I_c'15b :: [(b_x'20b, .cells [.int .i64 x'20b.f0, .int .i64 x'20b.f1, .int .i64 x'20b.f2, .string x'20b.f3, .int .u8 x'20b.f4, .bool x'20b.f5].toArray 41 (0, 0))] :: G) → Has 199 a [(0, .int .i64 displays'0), (1, .slice a_list'1 list'1.length c_list'1), (2, .int .i64 from'2), (3, .int .i64 to'3), (4, .string frame'4), (5, .int .i64 at'5), (6, .int .u8 b'6), (15, .pointer (some ⟨b_c'15b, 0, none⟩)), (17, .int .i64 n'17), (19, .int .i64 i'19), (20, .pointer (some ⟨b_x'20b, 0, none⟩)), (82, .bool t'82)] → (OwnS62 m b_c'15b I_c'15b c'15b) → (InR .i64 i'19) → (InR .i64 x'20b.f0) → (InR .i64 x'20b.f1) → (InR .i64 x'20b.f2) → (x'20b.f3.size ≤ reach) → (InR .u8 x'20b.f4) → Reach Try.prog b cs R [.code (sub [1, 1, 1, 1, 1, 1, 0, 1, 0, 0, 1, 0, 0, 1, 0, 1] f6_c), .code (sub [1, 1, 1, 1, 1, 1, 0, 1, 0, 0, 1, 0, 0, 1, 1] f6_c), .inBlock 1, .code (sub [1, 1, 1, 1, 1, 1, 0, 1, 0, 0, 1, 1] f6_c), .inLoop (sub [1, 1, 1, 1, 1, 1, 0, 1, 0, 0] f6_c), .inBlock 0, .code (sub [1, 1, 1, 1, 1, 1, 1] f6_c)] a w
def f6_j3 (displays'0 : Int) (list'1 : (List S40)) (from'2 : Int) (to'3 : Int) (frame'4 : ByteArray) (at'5 : Int) (b'6 : Int) (n'17 : Int) (X : S62 → Int → Prop) (c'15b : S62) (i'19 : Int) (x'20b : S40) (t'82 : Bool) : Prop := if t'82 = true then (f6_j4 displays'0 list'1 from'2 to'3 frame'4 at'5 b'6 n'17 X c'15b i'19) else (f15 c'15b x'20b fun r8 => f6_j4 displays'0 list'1 from'2 to'3 frame'4 at'5 b'6 n'17 X r8.2.2.2 i'19)
theorem f6_j3_ok {z : Base} {m0 : Mem} {G : List Grp} {b : Frame} {cs : List Frame} {R : Ending → World → Prop} {a_list'1 : Option Addr} {c_list'1 : Nat} {displays'0 : Int} {list'1 : (List S40)} {from'2 : Int} {to'3 : Int} {frame'4 : ByteArray} {at'5 : Int} {b'6 : Int} {n'17 : Int} {X : S62 → Int → Prop} (hbf : b.fn = 6) (hbk : b.kind = .normal) (h_displays'0 : InR .i64 displays'0) (h_list'1 : Sl k40 48 m0 a_list'1 c_list'1 list'1) (h_from'2 : InR .i64 from'2) (h_to'3 : InR .i64 to'3) (h_frame'4 : frame'4.size ≤ reach) (h_at'5 : InR .i64 at'5) (h_b'6 : InR .u8 b'6) (h_n'17 : InR .i64 n'17)  (hX : ∀ {c'15b : S62} {i'19 : Int}, X c'15b i'19 → f6_l2_Y z m0 G b cs R a_list'1 c_list'1 displays'0 list'1 from'2 to'3 frame'4 at'5 b'6 n'17 c'15b i'19) : ∀ {c'15b : S62} {i'19 : Int} {x'20b : S40} {t'82 : Bool}, f6_j3 displays'0 list'1 from'2 to'3 frame'4 at'5 b'6 n'17 X c'15b i'19 x'20b t'82 → f6_j3_Y z m0 G b cs R a_list'1 c_list'1 displays'0 list'1 from'2 to'3 frame'4 at'5 b'6 n'17 c'15b i'19 x'20b t'82 := by
  intro c'15b i'19 x'20b t'82 hr m w a0 b_c'15b I_c'15b b_x'20b hm0 hst hs0 h_c'15b h_i'19 h_x'20b_0 h_x'20b_1 h_x'20b_2 h_x'20b_3 h_x'20b_4
  unfold f6_j3 at hr
  by_cases hb1 : t'82 = true
  · rw [if_pos hb1] at hr
    rw [(bT hb1)] at hs0
    refine to_then (.tmp 82) (sub [1, 1, 1, 1, 1, 1, 0, 1, 0, 0, 1, 0, 0, 1, 0, 1, 0] f6_c) (sub [1, 1, 1, 1, 1, 1, 0, 1, 0, 0, 1, 0, 0, 1, 0, 1, 1] f6_c) (by kernel_rfl) hs0 (by kernel_rfl) ?_
    refine to_exit 1 (by kernel_rfl) [.code (sub [1, 1, 1, 1, 1, 1, 0, 1, 0, 0, 1, 1] f6_c), .inLoop (sub [1, 1, 1, 1, 1, 1, 0, 1, 0, 0] f6_c), .inBlock 0, .code (sub [1, 1, 1, 1, 1, 1, 1] f6_c)] rfl ?_
    have hst2 := W.St.drop [_] hst
    have hs3 := hs0.kept [0, 1, 2, 3, 4, 5, 6, 15, 17, 19] [(0, .int .i64 displays'0), (1, .slice a_list'1 list'1.length c_list'1), (2, .int .i64 from'2), (3, .int .i64 to'3), (4, .string frame'4), (5, .int .i64 at'5), (6, .int .u8 b'6), (15, .pointer (some ⟨b_c'15b, 0, none⟩)), (17, .int .i64 n'17), (19, .int .i64 i'19)] (by kernel_rfl)
    exact f6_j4_ok hbf hbk h_displays'0 h_list'1 h_from'2 h_to'3 h_frame'4 h_at'5 h_b'6 h_n'17  hX hr hm0 hst2 hs3 h_c'15b h_i'19
  rw [if_neg hb1] at hr
  rw [(bF hb1)] at hs0
  refine to_else (.tmp 82) (sub [1, 1, 1, 1, 1, 1, 0, 1, 0, 0, 1, 0, 0, 1, 0, 1, 0] f6_c) (sub [1, 1, 1, 1, 1, 1, 0, 1, 0, 0, 1, 0, 0, 1, 0, 1, 1] f6_c) (by kernel_rfl) hs0 (by kernel_rfl) ?_
  refine to_skip (by kernel_rfl) ?_
  refine to_nd 14 3 (rops (sub [1, 1, 1, 1, 1, 1, 0, 1, 0, 0, 1, 0, 0, 1, 1] f6_c)) (by kernel_rfl) (by kernel_rfl) ?_
  refine nd_q (c := 2) 1 [0, 1, 2, 3, 4, 5, 6, 15, 17, 19, 20, 83] hs0 [(0, .int .i64 displays'0), (1, .slice a_list'1 list'1.length c_list'1), (2, .int .i64 from'2), (3, .int .i64 to'3), (4, .string frame'4), (5, .int .i64 at'5), (6, .int .u8 b'6), (15, .pointer (some ⟨b_c'15b, 0, none⟩)), (17, .int .i64 n'17), (19, .int .i64 i'19), (20, .pointer (some ⟨b_x'20b, 0, none⟩)), (83, .pointer (some ⟨b_c'15b, 0, none⟩))] (by kernel_rfl) fun a4 hs5 => ?_
  refine nd_v (i := 1) (c := 1) 84 (.agg #[.int .i64 x'20b.f0, .int .i64 x'20b.f1, .int .i64 x'20b.f2, .string x'20b.f3, .int .u8 x'20b.f4, .bool x'20b.f5]) hs5 (by kernel_rfl) (ldN_run (P := Try.prog) (ad := ⟨b_x'20b, 0, none⟩) (l := [.int .i64 x'20b.f0, .int .i64 x'20b.f1, .int .i64 x'20b.f2, .string x'20b.f3, .int .u8 x'20b.f4, .bool x'20b.f5]) 6 rfl (by kernel_rfl) (W.St.ocells [_] hst)) fun a6 hs7 => ?_
  refine nd_op (op_call (some 85) hs7 (by kernel_rfl) (by kernel_rfl) ((f15_ok hst h_c'15b h_x'20b_0 h_x'20b_1 h_x'20b_2 h_x'20b_3 h_x'20b_4 hr).mono ?_))
  rintro _ w9 ⟨r8, I8_i0, hst12, rfl, hf8_0_0, hf8_1_0, hf8_1_1, hf8_1_2, hf8_2_0, hf8_i0, hr⟩
  revert hr; intro hr
  refine ⟨_, rfl, fun a10 hs11 => ?_⟩
  refine nd_done ?_
  refine reach_inBlock ?_
  have hst15 := W.St.drop [_] hst12
  have hs16 := hs11.kept [0, 1, 2, 3, 4, 5, 6, 15, 17, 19] [(0, .int .i64 displays'0), (1, .slice a_list'1 list'1.length c_list'1), (2, .int .i64 from'2), (3, .int .i64 to'3), (4, .string frame'4), (5, .int .i64 at'5), (6, .int .u8 b'6), (15, .pointer (some ⟨b_c'15b, 0, none⟩)), (17, .int .i64 n'17), (19, .int .i64 i'19)] (by kernel_rfl)
  exact f6_j4_ok hbf hbk h_displays'0 h_list'1 h_from'2 h_to'3 h_frame'4 h_at'5 h_b'6 h_n'17  hX hr hm0 hst15 hs16 hf8_i0 h_i'19
def f6_l2_Yk1 (z : Base) (m0 : Mem) (G : List Grp) (b : Frame) (cs : List Frame) (R : Ending → World → Prop) (a_list'1 : Option Addr) (c_list'1 : Nat) (displays'0 : Int) (list'1 : (List S40)) (from'2 : Int) (to'3 : Int) (frame'4 : ByteArray) (at'5 : Int) (b'6 : Int) (n'17 : Int) (c'15b : S62) : Prop := ∀ {m : Mem} {w : World} {a : Act} {b_c'15b : Nat} {I_c'15b : Grp}, m0.le m → W.St z w m (I_c'15b :: G) → Has 199 a [(0, .int .i64 displays'0), (2, .int .i64 from'2), (3, .int .i64 to'3), (4, .string frame'4), (5, .int .i64 at'5), (6, .int .u8 b'6), (15, .pointer (some ⟨b_c'15b, 0, none⟩)), (17, .int .i64 n'17)] → (OwnS62 m b_c'15b I_c'15b c'15b) → Reach Try.prog b cs R [.code (sub [1, 1, 1, 1, 1, 1, 1] f6_c)] a w
def f6_l2_b (displays'0 : Int) (list'1 : (List S40)) (from'2 : Int) (to'3 : Int) (frame'4 : ByteArray) (at'5 : Int) (b'6 : Int) (n'17 : Int) (k1 : S62 → Prop) (X : S62 → Int → Prop) (c'15b : S62) (i'19 : Int) : Prop := if i'19 < (list'1.length : Int) then (ofO (ix list'1 i'19) fun x6 => if x6.f0 = (0 : Int) then (f6_j3 displays'0 list'1 from'2 to'3 frame'4 at'5 b'6 n'17 X c'15b i'19 x6 false) else (if x6.f0 = (5 : Int) then (f6_j3 displays'0 list'1 from'2 to'3 frame'4 at'5 b'6 n'17 X c'15b i'19 x6 false) else (f6_j3 displays'0 list'1 from'2 to'3 frame'4 at'5 b'6 n'17 X c'15b i'19 x6 (x6.f1 == n'17)))) else (k1 c'15b)
def f6_l2 (displays'0 : Int) (list'1 : (List S40)) (from'2 : Int) (to'3 : Int) (frame'4 : ByteArray) (at'5 : Int) (b'6 : Int) (n'17 : Int) (k1 : S62 → Prop) (c'15b : S62) (i'19 : Int) : Prop := ∀ X : S62 → Int → Prop, (∀ {c'15b : S62} {i'19 : Int}, f6_l2_b displays'0 list'1 from'2 to'3 frame'4 at'5 b'6 n'17 k1 X c'15b i'19 → X c'15b i'19) → X c'15b i'19
theorem f6_l2_ok {z : Base} {m0 : Mem} {G : List Grp} {b : Frame} {cs : List Frame} {R : Ending → World → Prop} {a_list'1 : Option Addr} {c_list'1 : Nat} {displays'0 : Int} {list'1 : (List S40)} {from'2 : Int} {to'3 : Int} {frame'4 : ByteArray} {at'5 : Int} {b'6 : Int} {n'17 : Int} {k1 : S62 → Prop}  (hbf : b.fn = 6) (hbk : b.kind = .normal) (h_displays'0 : InR .i64 displays'0) (h_list'1 : Sl k40 48 m0 a_list'1 c_list'1 list'1) (h_from'2 : InR .i64 from'2) (h_to'3 : InR .i64 to'3) (h_frame'4 : frame'4.size ≤ reach) (h_at'5 : InR .i64 at'5) (h_b'6 : InR .u8 b'6) (h_n'17 : InR .i64 n'17)  (hk1 : ∀ {c'15b : S62}, k1 c'15b → f6_l2_Yk1 z m0 G b cs R a_list'1 c_list'1 displays'0 list'1 from'2 to'3 frame'4 at'5 b'6 n'17 c'15b) : ∀ {c'15b : S62} {i'19 : Int}, f6_l2 displays'0 list'1 from'2 to'3 frame'4 at'5 b'6 n'17 k1 c'15b i'19 → f6_l2_Y z m0 G b cs R a_list'1 c_list'1 displays'0 list'1 from'2 to'3 frame'4 at'5 b'6 n'17 c'15b i'19 := by
  intro c'15b i'19 hr
  refine hr (f6_l2_Y z m0 G b cs R a_list'1 c_list'1 displays'0 list'1 from'2 to'3 frame'4 at'5 b'6 n'17) ?_
  intro c'15b i'19 hr m w a0 b_c'15b I_c'15b hm0 hst hs0 h_c'15b h_i'19
  have hX : ∀ {c'15b : S62} {i'19 : Int}, f6_l2_Y z m0 G b cs R a_list'1 c_list'1 displays'0 list'1 from'2 to'3 frame'4 at'5 b'6 n'17 c'15b i'19 → f6_l2_Y z m0 G b cs R a_list'1 c_list'1 displays'0 list'1 from'2 to'3 frame'4 at'5 b'6 n'17 c'15b i'19 := fun h => h
  unfold f6_l2_b at hr
  refine to_seq (sub [1, 1, 1, 1, 1, 1, 0, 1, 0, 0, 0] f6_c) (sub [1, 1, 1, 1, 1, 1, 0, 1, 0, 0, 1] f6_c) (by kernel_rfl) ?_
  refine to_seq (sub [1, 1, 1, 1, 1, 1, 0, 1, 0, 0, 0, 0] f6_c) (sub [1, 1, 1, 1, 1, 1, 0, 1, 0, 0, 0, 1] f6_c) (by kernel_rfl) ?_
  refine to_nd 10 4 (rops (sub [1, 1, 1, 1, 1, 1, 0, 1, 0, 0, 0, 0] f6_c)) (by kernel_rfl) (by kernel_rfl) ?_
  refine nd_q (c := 0) 4 [0, 1, 2, 3, 4, 5, 6, 15, 17, 19, 62] hs0 [(0, .int .i64 displays'0), (1, .slice a_list'1 list'1.length c_list'1), (2, .int .i64 from'2), (3, .int .i64 to'3), (4, .string frame'4), (5, .int .i64 at'5), (6, .int .u8 b'6), (15, .pointer (some ⟨b_c'15b, 0, none⟩)), (17, .int .i64 n'17), (19, .int .i64 i'19), (62, .bool (decide (i'19 < (list'1.length : Int))))] (by kernel_rfl) fun a1 hs2 => ?_
  refine nd_done ?_
  by_cases hb3 : i'19 < (list'1.length : Int)
  rotate_left
  · rw [if_neg hb3] at hr
    rw [(decide_eq_false hb3)] at hs2
    refine to_else (.tmp 62) (sub [1, 1, 1, 1, 1, 1, 0, 1, 0, 0, 0, 1, 0] f6_c) (sub [1, 1, 1, 1, 1, 1, 0, 1, 0, 0, 0, 1, 1] f6_c) (by kernel_rfl) hs2 (by kernel_rfl) ?_
    refine to_exit 0 (by kernel_rfl) [.code (sub [1, 1, 1, 1, 1, 1, 1] f6_c)] rfl ?_
    have hs49 := hs2.kept [0, 2, 3, 4, 5, 6, 15, 17] [(0, .int .i64 displays'0), (2, .int .i64 from'2), (3, .int .i64 to'3), (4, .string frame'4), (5, .int .i64 at'5), (6, .int .u8 b'6), (15, .pointer (some ⟨b_c'15b, 0, none⟩)), (17, .int .i64 n'17)] (by kernel_rfl)
    exact hk1 hr hm0 hst hs49 h_c'15b
  rw [if_pos hb3] at hr
  rw [(decide_eq_true hb3)] at hs2
  refine to_then (.tmp 62) (sub [1, 1, 1, 1, 1, 1, 0, 1, 0, 0, 0, 1, 0] f6_c) (sub [1, 1, 1, 1, 1, 1, 0, 1, 0, 0, 0, 1, 1] f6_c) (by kernel_rfl) hs2 (by kernel_rfl) ?_
  refine to_skip (by kernel_rfl) ?_
  refine to_seq (sub [1, 1, 1, 1, 1, 1, 0, 1, 0, 0, 1, 0] f6_c) (sub [1, 1, 1, 1, 1, 1, 0, 1, 0, 0, 1, 1] f6_c) (by kernel_rfl) ?_
  refine to_block 1 (sub [1, 1, 1, 1, 1, 1, 0, 1, 0, 0, 1, 0, 0] f6_c) (by kernel_rfl) ?_
  refine to_seq (sub [1, 1, 1, 1, 1, 1, 0, 1, 0, 0, 1, 0, 0, 0] f6_c) (sub [1, 1, 1, 1, 1, 1, 0, 1, 0, 0, 1, 0, 0, 1] f6_c) (by kernel_rfl) ?_
  refine to_nd 12 6 (rops (sub [1, 1, 1, 1, 1, 1, 0, 1, 0, 0, 1, 0, 0, 0] f6_c)) (by kernel_rfl) (by kernel_rfl) ?_
  refine nd_q (c := 4) 2 [0, 1, 2, 3, 4, 5, 6, 15, 17, 19, 65, 66] hs2 [(0, .int .i64 displays'0), (1, .slice a_list'1 list'1.length c_list'1), (2, .int .i64 from'2), (3, .int .i64 to'3), (4, .string frame'4), (5, .int .i64 at'5), (6, .int .u8 b'6), (15, .pointer (some ⟨b_c'15b, 0, none⟩)), (17, .int .i64 n'17), (19, .int .i64 i'19), (65, .slice a_list'1 list'1.length c_list'1), (66, .int .i64 i'19)] (by kernel_rfl) fun a4 hs5 => ?_
  obtain ⟨x6, hx6, hr⟩ := ofO_el hr
  obtain ⟨ad6, c6, hA6, hR6, hX6⟩ := Row.ix (h_list'1.mono hm0).1 hx6
  obtain ⟨he6, hf6_0, hf6_1, hf6_2, hf6_3, hf6_4⟩ := k40_open hR6
  have hB6 := hA6.conv he6
  refine nd_v (i := 2) (c := 3) 67 (.pointer (some ad6)) hs5 (by kernel_rfl) (hX6 (P := Try.prog) (w := w) (by kernel_rfl)) fun a7 hs8 => ?_
  refine nd_v (i := 3) (c := 2) 68 (.agg #[.int .i64 x6.f0, .int .i64 x6.f1, .int .i64 x6.f2, .string x6.f3, .int .u8 x6.f4, .bool x6.f5]) hs8 (by kernel_rfl) (ldN_run (P := Try.prog) (ad := ad6) (l := [.int .i64 x6.f0, .int .i64 x6.f1, .int .i64 x6.f2, .string x6.f3, .int .u8 x6.f4, .bool x6.f5]) 6 rfl (by kernel_rfl) (hB6.all hst)) fun a9 hs10 => ?_
  have hst13 := hst.alloc (.cells [.int .i64 (0 : Int), .int .i64 (0 : Int), .int .i64 (0 : Int), .string ByteArray.empty, .int .u8 (0 : Int), .bool false].toArray 41 (0, 0))
  refine nd_op (op_v (w' := w.alloc (.cells [.int .i64 (0 : Int), .int .i64 (0 : Int), .int .i64 (0 : Int), .string ByteArray.empty, .int .u8 (0 : Int), .bool false].toArray 41 (0, 0))) (some 20) (.pointer (some ⟨w.heap.size, 0, none⟩)) hs10 (by kernel_rfl) (by kernel_rfl) fun a14 hs15 => ?_)
  generalize w.heap.size = b11 at hst13 hs15
  generalize w.alloc (.cells [.int .i64 (0 : Int), .int .i64 (0 : Int), .int .i64 (0 : Int), .string ByteArray.empty, .int .u8 (0 : Int), .bool false].toArray 41 (0, 0)) = w12 at hst13 ⊢
  obtain ⟨wq16, hxq16, hstq16⟩ := stq_run (P := Try.prog) (o := opAt (rops (sub [1, 1, 1, 1, 1, 1, 0, 1, 0, 0, 1, 0, 0, 0] f6_c)) 5) (ρ := Env.rho hs15.env) (off := 0) (vs := [.int .i64 x6.f0, .int .i64 x6.f1, .int .i64 x6.f2, .string x6.f3, .int .u8 x6.f4, .bool x6.f5]) (by kernel_rfl) (by kernel_rfl) (Nat.le_of_ble_eq_true rfl) hst13 [.int .i64 x6.f0, .int .i64 x6.f1, .int .i64 x6.f2, .string x6.f3, .int .u8 x6.f4, .bool x6.f5] rfl
  refine nd_op (op_s none hs15 (by kernel_rfl) hxq16 fun a17 hs18 => ?_)
  refine nd_done ?_
  refine to_seq (sub [1, 1, 1, 1, 1, 1, 0, 1, 0, 0, 1, 0, 0, 1, 0] f6_c) (sub [1, 1, 1, 1, 1, 1, 0, 1, 0, 0, 1, 0, 0, 1, 1] f6_c) (by kernel_rfl) ?_
  refine to_seq (sub [1, 1, 1, 1, 1, 1, 0, 1, 0, 0, 1, 0, 0, 1, 0, 0] f6_c) (sub [1, 1, 1, 1, 1, 1, 0, 1, 0, 0, 1, 0, 0, 1, 0, 1] f6_c) (by kernel_rfl) ?_
  refine to_nd 13 14 (rops (sub [1, 1, 1, 1, 1, 1, 0, 1, 0, 0, 1, 0, 0, 1, 0, 0] f6_c)) (by kernel_rfl) (by kernel_rfl) ?_
  refine nd_q (c := 13) 1 [0, 1, 2, 3, 4, 5, 6, 15, 17, 19, 20, 69] hs18 [(0, .int .i64 displays'0), (1, .slice a_list'1 list'1.length c_list'1), (2, .int .i64 from'2), (3, .int .i64 to'3), (4, .string frame'4), (5, .int .i64 at'5), (6, .int .u8 b'6), (15, .pointer (some ⟨b_c'15b, 0, none⟩)), (17, .int .i64 n'17), (19, .int .i64 i'19), (20, .pointer (some ⟨b11, 0, none⟩)), (69, .pointer (some ⟨b11, 0, none⟩))] (by kernel_rfl) fun a19 hs20 => ?_
  refine nd_v (i := 1) (c := 12) 70 (.int .i64 x6.f0) hs20 (by kernel_rfl) (ld1_run (P := Try.prog) (ad := ⟨b11, 0, none⟩) (by kernel_rfl) (W.St.ocell [] hstq16 0 (Nat.le_of_ble_eq_true rfl))) fun a21 hs22 => ?_
  refine nd_q (c := 10) 2 [0, 1, 2, 3, 4, 5, 6, 15, 17, 19, 20, 72] hs22 [(0, .int .i64 displays'0), (1, .slice a_list'1 list'1.length c_list'1), (2, .int .i64 from'2), (3, .int .i64 to'3), (4, .string frame'4), (5, .int .i64 at'5), (6, .int .u8 b'6), (15, .pointer (some ⟨b_c'15b, 0, none⟩)), (17, .int .i64 n'17), (19, .int .i64 i'19), (20, .pointer (some ⟨b11, 0, none⟩)), (72, .bool (x6.f0 != (0 : Int)))] (by kernel_rfl) fun a23 hs24 => ?_
  by_cases hb25 : x6.f0 = (0 : Int)
  · rw [if_pos hb25] at hr
    rw [(neF hb25)] at hs24
    refine nd_q (c := 0) 10 [0, 1, 2, 3, 4, 5, 6, 15, 17, 19, 20, 82] hs24 [(0, .int .i64 displays'0), (1, .slice a_list'1 list'1.length c_list'1), (2, .int .i64 from'2), (3, .int .i64 to'3), (4, .string frame'4), (5, .int .i64 at'5), (6, .int .u8 b'6), (15, .pointer (some ⟨b_c'15b, 0, none⟩)), (17, .int .i64 n'17), (19, .int .i64 i'19), (20, .pointer (some ⟨b11, 0, none⟩)), (82, .bool false)] (by kernel_rfl) fun a26 hs27 => ?_
    refine nd_done ?_
    have hst28 := W.St.front [_] hstq16
    have hs29 := hs27.kept [0, 1, 2, 3, 4, 5, 6, 15, 17, 19, 20, 82] [(0, .int .i64 displays'0), (1, .slice a_list'1 list'1.length c_list'1), (2, .int .i64 from'2), (3, .int .i64 to'3), (4, .string frame'4), (5, .int .i64 at'5), (6, .int .u8 b'6), (15, .pointer (some ⟨b_c'15b, 0, none⟩)), (17, .int .i64 n'17), (19, .int .i64 i'19), (20, .pointer (some ⟨b11, 0, none⟩)), (82, .bool false)] (by kernel_rfl)
    exact f6_j3_ok hbf hbk h_displays'0 h_list'1 h_from'2 h_to'3 h_frame'4 h_at'5 h_b'6 h_n'17  hX hr hm0 hst28 hs29 h_c'15b h_i'19 hf6_0 hf6_1 hf6_2 hf6_3 hf6_4
  rw [if_neg hb25] at hr
  rw [(neT hb25)] at hs24
  refine nd_q (c := 9) 1 [0, 1, 2, 3, 4, 5, 6, 15, 17, 19, 20, 72, 73] hs24 [(0, .int .i64 displays'0), (1, .slice a_list'1 list'1.length c_list'1), (2, .int .i64 from'2), (3, .int .i64 to'3), (4, .string frame'4), (5, .int .i64 at'5), (6, .int .u8 b'6), (15, .pointer (some ⟨b_c'15b, 0, none⟩)), (17, .int .i64 n'17), (19, .int .i64 i'19), (20, .pointer (some ⟨b11, 0, none⟩)), (72, .bool true), (73, .pointer (some ⟨b11, 0, none⟩))] (by kernel_rfl) fun a30 hs31 => ?_
  refine nd_v (i := 5) (c := 8) 74 (.int .i64 x6.f0) hs31 (by kernel_rfl) (ld1_run (P := Try.prog) (ad := ⟨b11, 0, none⟩) (by kernel_rfl) (W.St.ocell [] hstq16 0 (Nat.le_of_ble_eq_true rfl))) fun a32 hs33 => ?_
  refine nd_q (c := 5) 3 [0, 1, 2, 3, 4, 5, 6, 15, 17, 19, 20, 77] hs33 [(0, .int .i64 displays'0), (1, .slice a_list'1 list'1.length c_list'1), (2, .int .i64 from'2), (3, .int .i64 to'3), (4, .string frame'4), (5, .int .i64 at'5), (6, .int .u8 b'6), (15, .pointer (some ⟨b_c'15b, 0, none⟩)), (17, .int .i64 n'17), (19, .int .i64 i'19), (20, .pointer (some ⟨b11, 0, none⟩)), (77, .bool (x6.f0 != (5 : Int)))] (by kernel_rfl) fun a34 hs35 => ?_
  by_cases hb36 : x6.f0 = (5 : Int)
  · rw [if_pos hb36] at hr
    rw [(neF hb36)] at hs35
    refine nd_q (c := 0) 5 [0, 1, 2, 3, 4, 5, 6, 15, 17, 19, 20, 82] hs35 [(0, .int .i64 displays'0), (1, .slice a_list'1 list'1.length c_list'1), (2, .int .i64 from'2), (3, .int .i64 to'3), (4, .string frame'4), (5, .int .i64 at'5), (6, .int .u8 b'6), (15, .pointer (some ⟨b_c'15b, 0, none⟩)), (17, .int .i64 n'17), (19, .int .i64 i'19), (20, .pointer (some ⟨b11, 0, none⟩)), (82, .bool false)] (by kernel_rfl) fun a37 hs38 => ?_
    refine nd_done ?_
    have hst39 := W.St.front [_] hstq16
    have hs40 := hs38.kept [0, 1, 2, 3, 4, 5, 6, 15, 17, 19, 20, 82] [(0, .int .i64 displays'0), (1, .slice a_list'1 list'1.length c_list'1), (2, .int .i64 from'2), (3, .int .i64 to'3), (4, .string frame'4), (5, .int .i64 at'5), (6, .int .u8 b'6), (15, .pointer (some ⟨b_c'15b, 0, none⟩)), (17, .int .i64 n'17), (19, .int .i64 i'19), (20, .pointer (some ⟨b11, 0, none⟩)), (82, .bool false)] (by kernel_rfl)
    exact f6_j3_ok hbf hbk h_displays'0 h_list'1 h_from'2 h_to'3 h_frame'4 h_at'5 h_b'6 h_n'17  hX hr hm0 hst39 hs40 h_c'15b h_i'19 hf6_0 hf6_1 hf6_2 hf6_3 hf6_4
  rw [if_neg hb36] at hr
  rw [(neT hb36)] at hs35
  refine nd_q (c := 4) 1 [0, 1, 2, 3, 4, 5, 6, 15, 17, 19, 20, 77, 78] hs35 [(0, .int .i64 displays'0), (1, .slice a_list'1 list'1.length c_list'1), (2, .int .i64 from'2), (3, .int .i64 to'3), (4, .string frame'4), (5, .int .i64 at'5), (6, .int .u8 b'6), (15, .pointer (some ⟨b_c'15b, 0, none⟩)), (17, .int .i64 n'17), (19, .int .i64 i'19), (20, .pointer (some ⟨b11, 0, none⟩)), (77, .bool true), (78, .pointer (some ⟨b11, 1, none⟩))] (by kernel_rfl) fun a41 hs42 => ?_
  refine nd_v (i := 10) (c := 3) 79 (.int .i64 x6.f1) hs42 (by kernel_rfl) (ld1_run (P := Try.prog) (ad := ⟨b11, 1, none⟩) (by kernel_rfl) (W.St.ocell [] hstq16 1 (Nat.le_of_ble_eq_true rfl))) fun a43 hs44 => ?_
  refine nd_q (c := 0) 3 [0, 1, 2, 3, 4, 5, 6, 15, 17, 19, 20, 82] hs44 [(0, .int .i64 displays'0), (1, .slice a_list'1 list'1.length c_list'1), (2, .int .i64 from'2), (3, .int .i64 to'3), (4, .string frame'4), (5, .int .i64 at'5), (6, .int .u8 b'6), (15, .pointer (some ⟨b_c'15b, 0, none⟩)), (17, .int .i64 n'17), (19, .int .i64 i'19), (20, .pointer (some ⟨b11, 0, none⟩)), (82, .bool (x6.f1 == n'17))] (by kernel_rfl) fun a45 hs46 => ?_
  refine nd_done ?_
  have hst47 := W.St.front [_] hstq16
  have hs48 := hs46.kept [0, 1, 2, 3, 4, 5, 6, 15, 17, 19, 20, 82] [(0, .int .i64 displays'0), (1, .slice a_list'1 list'1.length c_list'1), (2, .int .i64 from'2), (3, .int .i64 to'3), (4, .string frame'4), (5, .int .i64 at'5), (6, .int .u8 b'6), (15, .pointer (some ⟨b_c'15b, 0, none⟩)), (17, .int .i64 n'17), (19, .int .i64 i'19), (20, .pointer (some ⟨b11, 0, none⟩)), (82, .bool (x6.f1 == n'17))] (by kernel_rfl)
  exact f6_j3_ok hbf hbk h_displays'0 h_list'1 h_from'2 h_to'3 h_frame'4 h_at'5 h_b'6 h_n'17  hX hr hm0 hst47 hs48 h_c'15b h_i'19 hf6_0 hf6_1 hf6_2 hf6_3 hf6_4
def f6_l6_Y (z : Base) (m0 : Mem) (G : List Grp) (b : Frame) (cs : List Frame) (R : Ending → World → Prop) (displays'0 : Int) (from'2 : Int) (to'3 : Int) (frame'4 : ByteArray) (at'5 : Int) (b'6 : Int) (n'17 : Int) (k'21 : Int) (c'15b : S62) (i'24 : Int) : Prop := ∀ {m : Mem} {w : World} {a : Act} {b_c'15b : Nat} {I_c'15b : Grp}, m0.le m → W.St z w m (I_c'15b :: G) → Has 199 a [(0, .int .i64 displays'0), (2, .int .i64 from'2), (3, .int .i64 to'3), (4, .string frame'4), (5, .int .i64 at'5), (6, .int .u8 b'6), (15, .pointer (some ⟨b_c'15b, 0, none⟩)), (17, .int .i64 n'17), (21, .int .i64 k'21), (24, .int .i64 i'24)] → (OwnS62 m b_c'15b I_c'15b c'15b) → (InR .i64 i'24) → Reach Try.prog b cs R [.code (sub [1, 1, 1, 1, 1, 1, 1, 1, 1, 1, 0, 1, 0, 0] f6_c), .inLoop (sub [1, 1, 1, 1, 1, 1, 1, 1, 1, 1, 0, 1, 0, 0] f6_c), .inBlock 2, .code (sub [1, 1, 1, 1, 1, 1, 1, 1, 1, 1, 1] f6_c)] a w
def f6_l6_Yk1 (z : Base) (m0 : Mem) (G : List Grp) (b : Frame) (cs : List Frame) (R : Ending → World → Prop) (displays'0 : Int) (from'2 : Int) (to'3 : Int) (frame'4 : ByteArray) (at'5 : Int) (b'6 : Int) (n'17 : Int) (k'21 : Int) (c'15b : S62) : Prop := ∀ {m : Mem} {w : World} {a : Act} {b_c'15b : Nat} {I_c'15b : Grp}, m0.le m → W.St z w m (I_c'15b :: G) → Has 199 a [(2, .int .i64 from'2), (3, .int .i64 to'3), (4, .string frame'4), (5, .int .i64 at'5), (6, .int .u8 b'6), (15, .pointer (some ⟨b_c'15b, 0, none⟩)), (17, .int .i64 n'17), (21, .int .i64 k'21)] → (OwnS62 m b_c'15b I_c'15b c'15b) → Reach Try.prog b cs R [.code (sub [1, 1, 1, 1, 1, 1, 1, 1, 1, 1, 1] f6_c)] a w
def f6_j7_Y (z : Base) (m0 : Mem) (G : List Grp) (b : Frame) (cs : List Frame) (R : Ending → World → Prop) (displays'0 : Int) (from'2 : Int) (to'3 : Int) (frame'4 : ByteArray) (at'5 : Int) (b'6 : Int) (n'17 : Int) (k'21 : Int) (c'15b : S62) (i'24 : Int) : Prop := ∀ {m : Mem} {w : World} {a : Act} {b_c'15b : Nat} {I_c'15b : Grp}, m0.le m → W.St z w m (I_c'15b :: G) → Has 199 a [(0, .int .i64 displays'0), (2, .int .i64 from'2), (3, .int .i64 to'3), (4, .string frame'4), (5, .int .i64 at'5), (6, .int .u8 b'6), (15, .pointer (some ⟨b_c'15b, 0, none⟩)), (17, .int .i64 n'17), (21, .int .i64 k'21), (24, .int .i64 i'24)] → (OwnS62 m b_c'15b I_c'15b c'15b) → (InR .i64 i'24) → Reach Try.prog b cs R [.code (sub [1, 1, 1, 1, 1, 1, 1, 1, 1, 1, 0, 1, 0, 0, 0] f6_c), .code (sub [1, 1, 1, 1, 1, 1, 1, 1, 1, 1, 0, 1, 0, 0, 1] f6_c), .inLoop (sub [1, 1, 1, 1, 1, 1, 1, 1, 1, 1, 0, 1, 0, 0] f6_c), .inBlock 2, .code (sub [1, 1, 1, 1, 1, 1, 1, 1, 1, 1, 1] f6_c)] a w
def f6_j7 (displays'0 : Int) (from'2 : Int) (to'3 : Int) (frame'4 : ByteArray) (at'5 : Int) (b'6 : Int) (n'17 : Int) (k'21 : Int) (X : S62 → Int → Prop) (Q : Bool → Prop) (k1 : S62 → Prop) (c'15b : S62) (i'24 : Int) : Prop := if i'24 ≤ displays'0 then (f24 c'15b i'24 false fun r6 => if r6.1 = (0 : Int) then (X r6.2 (w64 (i'24 + (1 : Int)))) else (Q false)) else (k1 c'15b)
theorem f6_j7_ok {z : Base} {m0 : Mem} {G : List Grp} {b : Frame} {cs : List Frame} {R : Ending → World → Prop} {displays'0 : Int} {from'2 : Int} {to'3 : Int} {frame'4 : ByteArray} {at'5 : Int} {b'6 : Int} {n'17 : Int} {k'21 : Int} {X : S62 → Int → Prop} {Q : Bool → Prop} {k1 : S62 → Prop} (hbf : b.fn = 6) (hbk : b.kind = .normal) (h_displays'0 : InR .i64 displays'0) (h_from'2 : InR .i64 from'2) (h_to'3 : InR .i64 to'3) (h_frame'4 : frame'4.size ≤ reach) (h_at'5 : InR .i64 at'5) (h_b'6 : InR .u8 b'6) (h_n'17 : InR .i64 n'17) (h_k'21 : InR .i64 k'21)  (hX : ∀ {c'15b : S62} {i'24 : Int}, X c'15b i'24 → f6_l6_Y z m0 G b cs R displays'0 from'2 to'3 frame'4 at'5 b'6 n'17 k'21 c'15b i'24) (hQ : ∀ {r : Bool}, Q r → f6_YR z m0 G R  r) (hk1 : ∀ {c'15b : S62}, k1 c'15b → f6_l6_Yk1 z m0 G b cs R displays'0 from'2 to'3 frame'4 at'5 b'6 n'17 k'21 c'15b) : ∀ {c'15b : S62} {i'24 : Int}, f6_j7 displays'0 from'2 to'3 frame'4 at'5 b'6 n'17 k'21 X Q k1 c'15b i'24 → f6_j7_Y z m0 G b cs R displays'0 from'2 to'3 frame'4 at'5 b'6 n'17 k'21 c'15b i'24 := by
  intro c'15b i'24 hr m w a0 b_c'15b I_c'15b hm0 hst hs0 h_c'15b h_i'24
  unfold f6_j7 at hr
  refine to_seq (sub [1, 1, 1, 1, 1, 1, 1, 1, 1, 1, 0, 1, 0, 0, 0, 0] f6_c) (sub [1, 1, 1, 1, 1, 1, 1, 1, 1, 1, 0, 1, 0, 0, 0, 1] f6_c) (by kernel_rfl) ?_
  refine to_nd 20 3 (rops (sub [1, 1, 1, 1, 1, 1, 1, 1, 1, 1, 0, 1, 0, 0, 0, 0] f6_c)) (by kernel_rfl) (by kernel_rfl) ?_
  refine nd_q (c := 0) 3 [0, 2, 3, 4, 5, 6, 15, 17, 21, 24, 114] hs0 [(0, .int .i64 displays'0), (2, .int .i64 from'2), (3, .int .i64 to'3), (4, .string frame'4), (5, .int .i64 at'5), (6, .int .u8 b'6), (15, .pointer (some ⟨b_c'15b, 0, none⟩)), (17, .int .i64 n'17), (21, .int .i64 k'21), (24, .int .i64 i'24), (114, .bool (decide (i'24 ≤ displays'0)))] (by kernel_rfl) fun a1 hs2 => ?_
  refine nd_done ?_
  by_cases hb3 : i'24 ≤ displays'0
  rotate_left
  · rw [if_neg hb3] at hr
    rw [(decide_eq_false hb3)] at hs2
    refine to_else (.tmp 114) (sub [1, 1, 1, 1, 1, 1, 1, 1, 1, 1, 0, 1, 0, 0, 0, 1, 0] f6_c) (sub [1, 1, 1, 1, 1, 1, 1, 1, 1, 1, 0, 1, 0, 0, 0, 1, 1] f6_c) (by kernel_rfl) hs2 (by kernel_rfl) ?_
    refine to_exit 2 (by kernel_rfl) [.code (sub [1, 1, 1, 1, 1, 1, 1, 1, 1, 1, 1] f6_c)] rfl ?_
    have hs22 := hs2.kept [2, 3, 4, 5, 6, 15, 17, 21] [(2, .int .i64 from'2), (3, .int .i64 to'3), (4, .string frame'4), (5, .int .i64 at'5), (6, .int .u8 b'6), (15, .pointer (some ⟨b_c'15b, 0, none⟩)), (17, .int .i64 n'17), (21, .int .i64 k'21)] (by kernel_rfl)
    exact hk1 hr hm0 hst hs22 h_c'15b
  rw [if_pos hb3] at hr
  rw [(decide_eq_true hb3)] at hs2
  refine to_then (.tmp 114) (sub [1, 1, 1, 1, 1, 1, 1, 1, 1, 1, 0, 1, 0, 0, 0, 1, 0] f6_c) (sub [1, 1, 1, 1, 1, 1, 1, 1, 1, 1, 0, 1, 0, 0, 0, 1, 1] f6_c) (by kernel_rfl) hs2 (by kernel_rfl) ?_
  refine to_skip (by kernel_rfl) ?_
  refine to_seq (sub [1, 1, 1, 1, 1, 1, 1, 1, 1, 1, 0, 1, 0, 0, 1, 0] f6_c) (sub [1, 1, 1, 1, 1, 1, 1, 1, 1, 1, 0, 1, 0, 0, 1, 1] f6_c) (by kernel_rfl) ?_
  refine to_block 3 (sub [1, 1, 1, 1, 1, 1, 1, 1, 1, 1, 0, 1, 0, 0, 1, 0, 0] f6_c) (by kernel_rfl) ?_
  refine to_seq (sub [1, 1, 1, 1, 1, 1, 1, 1, 1, 1, 0, 1, 0, 0, 1, 0, 0, 0] f6_c) (sub [1, 1, 1, 1, 1, 1, 1, 1, 1, 1, 0, 1, 0, 0, 1, 0, 0, 1] f6_c) (by kernel_rfl) ?_
  refine to_nd 22 4 (rops (sub [1, 1, 1, 1, 1, 1, 1, 1, 1, 1, 0, 1, 0, 0, 1, 0, 0, 0] f6_c)) (by kernel_rfl) (by kernel_rfl) ?_
  refine nd_q (c := 2) 2 [0, 2, 3, 4, 5, 6, 15, 17, 21, 24, 117, 118] hs2 [(0, .int .i64 displays'0), (2, .int .i64 from'2), (3, .int .i64 to'3), (4, .string frame'4), (5, .int .i64 at'5), (6, .int .u8 b'6), (15, .pointer (some ⟨b_c'15b, 0, none⟩)), (17, .int .i64 n'17), (21, .int .i64 k'21), (24, .int .i64 i'24), (117, .pointer (some ⟨b_c'15b, 0, none⟩)), (118, .int .i64 i'24)] (by kernel_rfl) fun a4 hs5 => ?_
  refine nd_op (op_call (some 119) hs5 (by kernel_rfl) (by kernel_rfl) ((f24_ok hst h_c'15b h_i'24 hr).mono ?_))
  rintro _ w7 ⟨r6, I6_i0, hst10, rfl, hf6_0_0, hf6_i0, hr⟩
  revert hr; intro hr
  refine ⟨_, rfl, fun a8 hs9 => ?_⟩
  refine nd_q (c := 0) 1 [0, 2, 3, 4, 5, 6, 15, 17, 21, 24, 120] hs9 [(0, .int .i64 displays'0), (2, .int .i64 from'2), (3, .int .i64 to'3), (4, .string frame'4), (5, .int .i64 at'5), (6, .int .u8 b'6), (15, .pointer (some ⟨b_c'15b, 0, none⟩)), (17, .int .i64 n'17), (21, .int .i64 k'21), (24, .int .i64 i'24), (120, .bool (r6.1 != (0 : Int)))] (by kernel_rfl) fun a13 hs14 => ?_
  refine nd_done ?_
  by_cases hb15 : r6.1 = (0 : Int)
  rotate_left
  · rw [if_neg hb15] at hr
    rw [(neT hb15)] at hs14
    refine to_then (.tmp 120) (sub [1, 1, 1, 1, 1, 1, 1, 1, 1, 1, 0, 1, 0, 0, 1, 0, 0, 1, 0] f6_c) (sub [1, 1, 1, 1, 1, 1, 1, 1, 1, 1, 0, 1, 0, 0, 1, 0, 0, 1, 1] f6_c) (by kernel_rfl) hs14 (by kernel_rfl) ?_
    refine to_seq (sub [1, 1, 1, 1, 1, 1, 1, 1, 1, 1, 0, 1, 0, 0, 1, 0, 0, 1, 0, 0] f6_c) (sub [1, 1, 1, 1, 1, 1, 1, 1, 1, 1, 0, 1, 0, 0, 1, 0, 0, 1, 0, 1] f6_c) (by kernel_rfl) ?_
    refine to_nd 23 1 (rops (sub [1, 1, 1, 1, 1, 1, 1, 1, 1, 1, 0, 1, 0, 0, 1, 0, 0, 1, 0, 0] f6_c)) (by kernel_rfl) (by kernel_rfl) ?_
    refine nd_q (c := 0) 1 [14] hs14 [(14, .bool false)] (by kernel_rfl) fun a19 hs20 => ?_
    refine nd_done ?_
    have hst21 := W.St.drop [] hst10
    exact to_ret (v := .bool false) (by kernel_rfl) hbf Try.func6 hbk hs20 (by kernel_rfl) (hQ hr hm0 hst21 )
  rw [if_pos hb15] at hr
  rw [(neF hb15)] at hs14
  refine to_else (.tmp 120) (sub [1, 1, 1, 1, 1, 1, 1, 1, 1, 1, 0, 1, 0, 0, 1, 0, 0, 1, 0] f6_c) (sub [1, 1, 1, 1, 1, 1, 1, 1, 1, 1, 0, 1, 0, 0, 1, 0, 0, 1, 1] f6_c) (by kernel_rfl) hs14 (by kernel_rfl) ?_
  refine to_skip (by kernel_rfl) ?_
  refine reach_inBlock ?_
  refine to_nd 21 3 (rops (sub [1, 1, 1, 1, 1, 1, 1, 1, 1, 1, 0, 1, 0, 0, 1, 1] f6_c)) (by kernel_rfl) (by kernel_rfl) ?_
  refine nd_q (c := 0) 3 [0, 2, 3, 4, 5, 6, 15, 17, 21, 24] hs14 [(0, .int .i64 displays'0), (2, .int .i64 from'2), (3, .int .i64 to'3), (4, .string frame'4), (5, .int .i64 at'5), (6, .int .u8 b'6), (15, .pointer (some ⟨b_c'15b, 0, none⟩)), (17, .int .i64 n'17), (21, .int .i64 k'21), (24, .int .i64 (w64 (i'24 + (1 : Int))))] (by kernel_rfl) fun a16 hs17 => ?_
  refine nd_done ?_
  refine reach_inLoop ?_
  have hs18 := hs17.kept [0, 2, 3, 4, 5, 6, 15, 17, 21, 24] [(0, .int .i64 displays'0), (2, .int .i64 from'2), (3, .int .i64 to'3), (4, .string frame'4), (5, .int .i64 at'5), (6, .int .u8 b'6), (15, .pointer (some ⟨b_c'15b, 0, none⟩)), (17, .int .i64 n'17), (21, .int .i64 k'21), (24, .int .i64 (w64 (i'24 + (1 : Int))))] (by kernel_rfl)
  exact hX hr hm0 hst10 hs18 hf6_i0 (wrap_in .i64 _)
def f6_l6_b (displays'0 : Int) (from'2 : Int) (to'3 : Int) (frame'4 : ByteArray) (at'5 : Int) (b'6 : Int) (n'17 : Int) (k'21 : Int) (k1 : S62 → Prop) (Q : Bool → Prop) (X : S62 → Int → Prop) (c'15b : S62) (i'24 : Int) : Prop := f6_j7 displays'0 from'2 to'3 frame'4 at'5 b'6 n'17 k'21 X Q k1 c'15b i'24
def f6_l6 (displays'0 : Int) (from'2 : Int) (to'3 : Int) (frame'4 : ByteArray) (at'5 : Int) (b'6 : Int) (n'17 : Int) (k'21 : Int) (k1 : S62 → Prop) (Q : Bool → Prop) (c'15b : S62) (i'24 : Int) : Prop := ∀ X : S62 → Int → Prop, (∀ {c'15b : S62} {i'24 : Int}, f6_l6_b displays'0 from'2 to'3 frame'4 at'5 b'6 n'17 k'21 k1 Q X c'15b i'24 → X c'15b i'24) → X c'15b i'24
theorem f6_l6_ok {z : Base} {m0 : Mem} {G : List Grp} {b : Frame} {cs : List Frame} {R : Ending → World → Prop} {displays'0 : Int} {from'2 : Int} {to'3 : Int} {frame'4 : ByteArray} {at'5 : Int} {b'6 : Int} {n'17 : Int} {k'21 : Int} {k1 : S62 → Prop} {Q : Bool → Prop}  (hbf : b.fn = 6) (hbk : b.kind = .normal) (h_displays'0 : InR .i64 displays'0) (h_from'2 : InR .i64 from'2) (h_to'3 : InR .i64 to'3) (h_frame'4 : frame'4.size ≤ reach) (h_at'5 : InR .i64 at'5) (h_b'6 : InR .u8 b'6) (h_n'17 : InR .i64 n'17) (h_k'21 : InR .i64 k'21)  (hk1 : ∀ {c'15b : S62}, k1 c'15b → f6_l6_Yk1 z m0 G b cs R displays'0 from'2 to'3 frame'4 at'5 b'6 n'17 k'21 c'15b) (hQ : ∀ {r : Bool}, Q r → f6_YR z m0 G R  r) : ∀ {c'15b : S62} {i'24 : Int}, f6_l6 displays'0 from'2 to'3 frame'4 at'5 b'6 n'17 k'21 k1 Q c'15b i'24 → f6_l6_Y z m0 G b cs R displays'0 from'2 to'3 frame'4 at'5 b'6 n'17 k'21 c'15b i'24 := by
  intro c'15b i'24 hr
  refine hr (f6_l6_Y z m0 G b cs R displays'0 from'2 to'3 frame'4 at'5 b'6 n'17 k'21) ?_
  intro c'15b i'24 hr m w a0 b_c'15b I_c'15b hm0 hst hs0 h_c'15b h_i'24
  have hX : ∀ {c'15b : S62} {i'24 : Int}, f6_l6_Y z m0 G b cs R displays'0 from'2 to'3 frame'4 at'5 b'6 n'17 k'21 c'15b i'24 → f6_l6_Y z m0 G b cs R displays'0 from'2 to'3 frame'4 at'5 b'6 n'17 k'21 c'15b i'24 := fun h => h
  unfold f6_l6_b at hr
  refine to_seq (sub [1, 1, 1, 1, 1, 1, 1, 1, 1, 1, 0, 1, 0, 0, 0] f6_c) (sub [1, 1, 1, 1, 1, 1, 1, 1, 1, 1, 0, 1, 0, 0, 1] f6_c) (by kernel_rfl) ?_
  have hs1 := hs0.kept [0, 2, 3, 4, 5, 6, 15, 17, 21, 24] [(0, .int .i64 displays'0), (2, .int .i64 from'2), (3, .int .i64 to'3), (4, .string frame'4), (5, .int .i64 at'5), (6, .int .u8 b'6), (15, .pointer (some ⟨b_c'15b, 0, none⟩)), (17, .int .i64 n'17), (21, .int .i64 k'21), (24, .int .i64 i'24)] (by kernel_rfl)
  exact f6_j7_ok hbf hbk h_displays'0 h_from'2 h_to'3 h_frame'4 h_at'5 h_b'6 h_n'17 h_k'21  hX hQ hk1 hr hm0 hst hs1 h_c'15b h_i'24
def f6_l10_Y (z : Base) (m0 : Mem) (G : List Grp) (b : Frame) (cs : List Frame) (R : Ending → World → Prop) (b_y'27b : Nat) (frame'4 : ByteArray) (at'5 : Int) (b'6 : Int) (y'27b : S36) (s'29 : Int) : Prop := ∀ {m : Mem} {w : World} {a : Act} , m0.le m → W.St z w m ([(b_y'27b, .cells [.int .i64 y'27b.f0, .int .i64 y'27b.f1, .string y'27b.f2].toArray 37 (0, 0))] :: G) → Has 199 a [(4, .string frame'4), (5, .int .i64 at'5), (6, .int .u8 b'6), (27, .pointer (some ⟨b_y'27b, 0, none⟩)), (29, .int .i64 s'29)] → (InR .i64 s'29) → Reach Try.prog b cs R [.code (sub [1, 1, 1, 1, 1, 1, 1, 1, 1, 1, 1, 1, 1, 1, 0, 1, 0, 0] f6_c), .inLoop (sub [1, 1, 1, 1, 1, 1, 1, 1, 1, 1, 1, 1, 1, 1, 0, 1, 0, 0] f6_c), .inBlock 4, .code (sub [1, 1, 1, 1, 1, 1, 1, 1, 1, 1, 1, 1, 1, 1, 1] f6_c)] a w
def f6_j12_Y (z : Base) (m0 : Mem) (G : List Grp) (b : Frame) (cs : List Frame) (R : Ending → World → Prop) (b_y'27b : Nat) (frame'4 : ByteArray) (at'5 : Int) (b'6 : Int) (y'27b : S36) (s'29 : Int) (t'198 : Bool) : Prop := ∀ {m : Mem} {w : World} {a : Act} , m0.le m → W.St z w m ([(b_y'27b, .cells [.int .i64 y'27b.f0, .int .i64 y'27b.f1, .string y'27b.f2].toArray 37 (0, 0))] :: G) → Has 199 a [(4, .string frame'4), (5, .int .i64 at'5), (6, .int .u8 b'6), (27, .pointer (some ⟨b_y'27b, 0, none⟩)), (29, .int .i64 s'29), (198, .bool t'198)] → (InR .i64 s'29) → Reach Try.prog b cs R [.code (sub [1, 1, 1, 1, 1, 1, 1, 1, 1, 1, 1, 1, 1, 1, 0, 1, 0, 0, 1, 0, 0, 1] f6_c), .inBlock 5, .code (sub [1, 1, 1, 1, 1, 1, 1, 1, 1, 1, 1, 1, 1, 1, 0, 1, 0, 0, 1, 1] f6_c), .inLoop (sub [1, 1, 1, 1, 1, 1, 1, 1, 1, 1, 1, 1, 1, 1, 0, 1, 0, 0] f6_c), .inBlock 4, .code (sub [1, 1, 1, 1, 1, 1, 1, 1, 1, 1, 1, 1, 1, 1, 1] f6_c)] a w
def f6_j12 (frame'4 : ByteArray) (at'5 : Int) (b'6 : Int) (y'27b : S36) (Q : Bool → Prop) (X : Int → Prop) (s'29 : Int) (t'198 : Bool) : Prop := if t'198 = true then (Q false) else (X (w64 (s'29 + (1 : Int))))
theorem f6_j12_ok {z : Base} {m0 : Mem} {G : List Grp} {b : Frame} {cs : List Frame} {R : Ending → World → Prop} {b_y'27b : Nat} {frame'4 : ByteArray} {at'5 : Int} {b'6 : Int} {y'27b : S36} {Q : Bool → Prop} {X : Int → Prop} (hbf : b.fn = 6) (hbk : b.kind = .normal) (h_frame'4 : frame'4.size ≤ reach) (h_at'5 : InR .i64 at'5) (h_b'6 : InR .u8 b'6) (h_y'27b_0 : InR .i64 y'27b.f0) (h_y'27b_1 : InR .i64 y'27b.f1) (h_y'27b_2 : y'27b.f2.size ≤ reach)  (hQ : ∀ {r : Bool}, Q r → f6_YR z m0 G R  r) (hX : ∀ {s'29 : Int}, X s'29 → f6_l10_Y z m0 G b cs R b_y'27b frame'4 at'5 b'6 y'27b s'29) : ∀ {s'29 : Int} {t'198 : Bool}, f6_j12 frame'4 at'5 b'6 y'27b Q X s'29 t'198 → f6_j12_Y z m0 G b cs R b_y'27b frame'4 at'5 b'6 y'27b s'29 t'198 := by
  intro s'29 t'198 hr m w a0  hm0 hst hs0 h_s'29
  unfold f6_j12 at hr
  by_cases hb1 : t'198 = true
  · rw [if_pos hb1] at hr
    rw [(bT hb1)] at hs0
    refine to_then (.tmp 198) (sub [1, 1, 1, 1, 1, 1, 1, 1, 1, 1, 1, 1, 1, 1, 0, 1, 0, 0, 1, 0, 0, 1, 0] f6_c) (sub [1, 1, 1, 1, 1, 1, 1, 1, 1, 1, 1, 1, 1, 1, 0, 1, 0, 0, 1, 0, 0, 1, 1] f6_c) (by kernel_rfl) hs0 (by kernel_rfl) ?_
    refine to_seq (sub [1, 1, 1, 1, 1, 1, 1, 1, 1, 1, 1, 1, 1, 1, 0, 1, 0, 0, 1, 0, 0, 1, 0, 0] f6_c) (sub [1, 1, 1, 1, 1, 1, 1, 1, 1, 1, 1, 1, 1, 1, 0, 1, 0, 0, 1, 0, 0, 1, 0, 1] f6_c) (by kernel_rfl) ?_
    refine to_nd 32 1 (rops (sub [1, 1, 1, 1, 1, 1, 1, 1, 1, 1, 1, 1, 1, 1, 0, 1, 0, 0, 1, 0, 0, 1, 0, 0] f6_c)) (by kernel_rfl) (by kernel_rfl) ?_
    refine nd_q (c := 0) 1 [14] hs0 [(14, .bool false)] (by kernel_rfl) fun a2 hs3 => ?_
    refine nd_done ?_
    have hst4 := W.St.drop [] hst
    exact to_ret (v := .bool false) (by kernel_rfl) hbf Try.func6 hbk hs3 (by kernel_rfl) (hQ hr hm0 hst4 )
  rw [if_neg hb1] at hr
  rw [(bF hb1)] at hs0
  refine to_else (.tmp 198) (sub [1, 1, 1, 1, 1, 1, 1, 1, 1, 1, 1, 1, 1, 1, 0, 1, 0, 0, 1, 0, 0, 1, 0] f6_c) (sub [1, 1, 1, 1, 1, 1, 1, 1, 1, 1, 1, 1, 1, 1, 0, 1, 0, 0, 1, 0, 0, 1, 1] f6_c) (by kernel_rfl) hs0 (by kernel_rfl) ?_
  refine to_skip (by kernel_rfl) ?_
  refine reach_inBlock ?_
  refine to_nd 30 3 (rops (sub [1, 1, 1, 1, 1, 1, 1, 1, 1, 1, 1, 1, 1, 1, 0, 1, 0, 0, 1, 1] f6_c)) (by kernel_rfl) (by kernel_rfl) ?_
  refine nd_q (c := 0) 3 [4, 5, 6, 27, 29] hs0 [(4, .string frame'4), (5, .int .i64 at'5), (6, .int .u8 b'6), (27, .pointer (some ⟨b_y'27b, 0, none⟩)), (29, .int .i64 (w64 (s'29 + (1 : Int))))] (by kernel_rfl) fun a5 hs6 => ?_
  refine nd_done ?_
  refine reach_inLoop ?_
  have hs7 := hs6.kept [4, 5, 6, 27, 29] [(4, .string frame'4), (5, .int .i64 at'5), (6, .int .u8 b'6), (27, .pointer (some ⟨b_y'27b, 0, none⟩)), (29, .int .i64 (w64 (s'29 + (1 : Int))))] (by kernel_rfl)
  exact hX hr hm0 hst hs7 (wrap_in .i64 _)
def f6_l10_Yk1 (z : Base) (m0 : Mem) (G : List Grp) (b : Frame) (cs : List Frame) (R : Ending → World → Prop) (b_y'27b : Nat) (frame'4 : ByteArray) (at'5 : Int) (b'6 : Int) (y'27b : S36)  : Prop := ∀ {m : Mem} {w : World} {a : Act} , m0.le m → W.St z w m (G) → Has 199 a [] →  Reach Try.prog b cs R [.code (sub [1, 1, 1, 1, 1, 1, 1, 1, 1, 1, 1, 1, 1, 1, 1] f6_c)] a w
def f6_j11_Y (z : Base) (m0 : Mem) (G : List Grp) (b : Frame) (cs : List Frame) (R : Ending → World → Prop) (b_y'27b : Nat) (frame'4 : ByteArray) (at'5 : Int) (b'6 : Int) (y'27b : S36) (s'29 : Int) : Prop := ∀ {m : Mem} {w : World} {a : Act} , m0.le m → W.St z w m ([(b_y'27b, .cells [.int .i64 y'27b.f0, .int .i64 y'27b.f1, .string y'27b.f2].toArray 37 (0, 0))] :: G) → Has 199 a [(4, .string frame'4), (5, .int .i64 at'5), (6, .int .u8 b'6), (27, .pointer (some ⟨b_y'27b, 0, none⟩)), (29, .int .i64 s'29)] → (InR .i64 s'29) → Reach Try.prog b cs R [.code (sub [1, 1, 1, 1, 1, 1, 1, 1, 1, 1, 1, 1, 1, 1, 0, 1, 0, 0, 0] f6_c), .code (sub [1, 1, 1, 1, 1, 1, 1, 1, 1, 1, 1, 1, 1, 1, 0, 1, 0, 0, 1] f6_c), .inLoop (sub [1, 1, 1, 1, 1, 1, 1, 1, 1, 1, 1, 1, 1, 1, 0, 1, 0, 0] f6_c), .inBlock 4, .code (sub [1, 1, 1, 1, 1, 1, 1, 1, 1, 1, 1, 1, 1, 1, 1] f6_c)] a w
def f6_j11 (frame'4 : ByteArray) (at'5 : Int) (b'6 : Int) (y'27b : S36) (Q : Bool → Prop) (X : Int → Prop) (k1 : Prop) (s'29 : Int) : Prop := if s'29 < (frame'4.size : Int) then (if s'29 = at'5 then (ofO (sx y'27b.f2 s'29) fun c28 => if c28 = b'6 then (if s'29 = at'5 then (f6_j12 frame'4 at'5 b'6 y'27b Q X s'29 false) else (ofO (sx y'27b.f2 s'29) fun c64 => ofO (sx frame'4 s'29) fun c74 => f6_j12 frame'4 at'5 b'6 y'27b Q X s'29 (c64 != c74))) else (f6_j12 frame'4 at'5 b'6 y'27b Q X s'29 true)) else (if s'29 = at'5 then (f6_j12 frame'4 at'5 b'6 y'27b Q X s'29 false) else (ofO (sx y'27b.f2 s'29) fun c116 => ofO (sx frame'4 s'29) fun c126 => f6_j12 frame'4 at'5 b'6 y'27b Q X s'29 (c116 != c126)))) else (k1)
theorem f6_j11_ok {z : Base} {m0 : Mem} {G : List Grp} {b : Frame} {cs : List Frame} {R : Ending → World → Prop} {b_y'27b : Nat} {frame'4 : ByteArray} {at'5 : Int} {b'6 : Int} {y'27b : S36} {Q : Bool → Prop} {X : Int → Prop} {k1 : Prop} (hbf : b.fn = 6) (hbk : b.kind = .normal) (h_frame'4 : frame'4.size ≤ reach) (h_at'5 : InR .i64 at'5) (h_b'6 : InR .u8 b'6) (h_y'27b_0 : InR .i64 y'27b.f0) (h_y'27b_1 : InR .i64 y'27b.f1) (h_y'27b_2 : y'27b.f2.size ≤ reach)  (hQ : ∀ {r : Bool}, Q r → f6_YR z m0 G R  r) (hX : ∀ {s'29 : Int}, X s'29 → f6_l10_Y z m0 G b cs R b_y'27b frame'4 at'5 b'6 y'27b s'29) (hk1 : ∀ (_u : Unit), k1  → f6_l10_Yk1 z m0 G b cs R b_y'27b frame'4 at'5 b'6 y'27b ) : ∀ {s'29 : Int}, f6_j11 frame'4 at'5 b'6 y'27b Q X k1 s'29 → f6_j11_Y z m0 G b cs R b_y'27b frame'4 at'5 b'6 y'27b s'29 := by
  intro s'29 hr m w a0  hm0 hst hs0 h_s'29
  unfold f6_j11 at hr
  refine to_seq (sub [1, 1, 1, 1, 1, 1, 1, 1, 1, 1, 1, 1, 1, 1, 0, 1, 0, 0, 0, 0] f6_c) (sub [1, 1, 1, 1, 1, 1, 1, 1, 1, 1, 1, 1, 1, 1, 0, 1, 0, 0, 0, 1] f6_c) (by kernel_rfl) ?_
  refine to_nd 29 4 (rops (sub [1, 1, 1, 1, 1, 1, 1, 1, 1, 1, 1, 1, 1, 1, 0, 1, 0, 0, 0, 0] f6_c)) (by kernel_rfl) (by kernel_rfl) ?_
  refine nd_q (c := 0) 4 [4, 5, 6, 27, 29, 170] hs0 [(4, .string frame'4), (5, .int .i64 at'5), (6, .int .u8 b'6), (27, .pointer (some ⟨b_y'27b, 0, none⟩)), (29, .int .i64 s'29), (170, .bool (decide (s'29 < (frame'4.size : Int))))] (by kernel_rfl) fun a1 hs2 => ?_
  refine nd_done ?_
  by_cases hb3 : s'29 < (frame'4.size : Int)
  rotate_left
  · rw [if_neg hb3] at hr
    rw [(decide_eq_false hb3)] at hs2
    refine to_else (.tmp 170) (sub [1, 1, 1, 1, 1, 1, 1, 1, 1, 1, 1, 1, 1, 1, 0, 1, 0, 0, 0, 1, 0] f6_c) (sub [1, 1, 1, 1, 1, 1, 1, 1, 1, 1, 1, 1, 1, 1, 0, 1, 0, 0, 0, 1, 1] f6_c) (by kernel_rfl) hs2 (by kernel_rfl) ?_
    refine to_exit 4 (by kernel_rfl) [.code (sub [1, 1, 1, 1, 1, 1, 1, 1, 1, 1, 1, 1, 1, 1, 1] f6_c)] rfl ?_
    have hst136 := W.St.drop [] hst
    have hs137 := hs2.kept [] [] (by kernel_rfl)
    exact hk1 () hr hm0 hst136 hs137 
  rw [if_pos hb3] at hr
  rw [(decide_eq_true hb3)] at hs2
  refine to_then (.tmp 170) (sub [1, 1, 1, 1, 1, 1, 1, 1, 1, 1, 1, 1, 1, 1, 0, 1, 0, 0, 0, 1, 0] f6_c) (sub [1, 1, 1, 1, 1, 1, 1, 1, 1, 1, 1, 1, 1, 1, 0, 1, 0, 0, 0, 1, 1] f6_c) (by kernel_rfl) hs2 (by kernel_rfl) ?_
  refine to_skip (by kernel_rfl) ?_
  refine to_seq (sub [1, 1, 1, 1, 1, 1, 1, 1, 1, 1, 1, 1, 1, 1, 0, 1, 0, 0, 1, 0] f6_c) (sub [1, 1, 1, 1, 1, 1, 1, 1, 1, 1, 1, 1, 1, 1, 0, 1, 0, 0, 1, 1] f6_c) (by kernel_rfl) ?_
  refine to_block 5 (sub [1, 1, 1, 1, 1, 1, 1, 1, 1, 1, 1, 1, 1, 1, 0, 1, 0, 0, 1, 0, 0] f6_c) (by kernel_rfl) ?_
  refine to_seq (sub [1, 1, 1, 1, 1, 1, 1, 1, 1, 1, 1, 1, 1, 1, 0, 1, 0, 0, 1, 0, 0, 0] f6_c) (sub [1, 1, 1, 1, 1, 1, 1, 1, 1, 1, 1, 1, 1, 1, 0, 1, 0, 0, 1, 0, 0, 1] f6_c) (by kernel_rfl) ?_
  have hs4 := hs2.kept [4, 5, 6, 27, 29] [(4, .string frame'4), (5, .int .i64 at'5), (6, .int .u8 b'6), (27, .pointer (some ⟨b_y'27b, 0, none⟩)), (29, .int .i64 s'29)] (by kernel_rfl)
  refine to_dr 31 26 (rops (sub [1, 1, 1, 1, 1, 1, 1, 1, 1, 1, 1, 1, 1, 1, 0, 1, 0, 0, 1, 0, 0, 0] f6_c)) (by kernel_rfl) (by kernel_rfl) (by kernel_rfl) [] (fun w => Go.Proofs.Ytcnlbnccghjeaaa.W.St z w m ([(b_y'27b, .cells [.int .i64 y'27b.f0, .int .i64 y'27b.f1, .string y'27b.f2].toArray 37 (0, 0))] :: G)) (fun _ _ => True) fun hd5 => ?_
  have hst7 := hst.drawn (w.drawn + 1)
  generalize hw8 : ({ w with drawn := w.drawn + 1 } : World) = w6 at hst7 ⊢
  clear hw8
  refine dr_q (fuel := 22) [0, 1, 2, 3] [4, 5, 6, 27, 29, 176] [] hs4 hd5 ⟨hst7, fun _ hx => by cases hx⟩ (by kernel_rfl) (by kernel_rfl) ([(176, .bool (s'29 == at'5)), (175, .bool (s'29 == at'5)), (174, .int .i64 at'5), (173, .int .i64 s'29)] ++ [(4, .string frame'4), (5, .int .i64 at'5), (6, .int .u8 b'6), (27, .pointer (some ⟨b_y'27b, 0, none⟩)), (29, .int .i64 s'29)]) [(4, .string frame'4), (5, .int .i64 at'5), (6, .int .u8 b'6), (27, .pointer (some ⟨b_y'27b, 0, none⟩)), (29, .int .i64 s'29), (176, .bool (s'29 == at'5))] (by kernel_rfl) (by kernel_rfl) (fun _ hx => by cases hx) (fun w hT _ => by kernel_rfl) fun a9 hs10 hd11 hS12 => ?_
  by_cases hb13 : s'29 = at'5
  rotate_left
  · rw [if_neg hb13] at hr
    rw [(eqF hb13)] at hs10
    have hs90 := hs10.kept [4, 5, 6, 27, 29, 176] [(4, .string frame'4), (5, .int .i64 at'5), (6, .int .u8 b'6), (27, .pointer (some ⟨b_y'27b, 0, none⟩)), (29, .int .i64 s'29), (176, .bool false)] (by kernel_rfl)
    refine dr_q (fuel := 10) [4, 5, 6, 7, 8, 9, 10, 11, 12, 13, 14, 15] [4, 5, 6, 27, 29, 184, 188] [] hs90 hd11 ⟨hst7, fun _ hx => by cases hx⟩ (by kernel_rfl) (by kernel_rfl) ([(188, .bool (s'29 != at'5)), (187, .bool (s'29 != at'5)), (186, .int .i64 at'5), (185, .int .i64 s'29), (184, .bool false), (183, .bool false), (182, undef), (181, undef), (180, undef), (179, undef), (178, undef), (177, undef)] ++ [(4, .string frame'4), (5, .int .i64 at'5), (6, .int .u8 b'6), (27, .pointer (some ⟨b_y'27b, 0, none⟩)), (29, .int .i64 s'29), (176, .bool false)]) [(4, .string frame'4), (5, .int .i64 at'5), (6, .int .u8 b'6), (27, .pointer (some ⟨b_y'27b, 0, none⟩)), (29, .int .i64 s'29), (184, .bool false), (188, .bool (s'29 != at'5))] (by kernel_rfl) (by kernel_rfl) (fun _ hx => by cases hx) (fun w hT _ => by kernel_rfl) fun a91 hs92 hd93 hS94 => ?_
    by_cases hb95 : s'29 = at'5
    · rw [if_pos hb95] at hr
      rw [(neF hb95)] at hs92
      have hs96 := hs92.kept [4, 5, 6, 27, 29, 184, 188] [(4, .string frame'4), (5, .int .i64 at'5), (6, .int .u8 b'6), (27, .pointer (some ⟨b_y'27b, 0, none⟩)), (29, .int .i64 s'29), (184, .bool false), (188, .bool false)] (by kernel_rfl)
      refine dr_q (fuel := 0) [16, 17, 18, 19, 20, 21, 22, 23, 24, 25] [4, 5, 6, 27, 29, 198] [] hs96 hd93 ⟨hst7, fun _ hx => by cases hx⟩ (by kernel_rfl) (by kernel_rfl) ([(198, .bool false), (197, .bool false), (196, undef), (195, undef), (194, undef), (193, undef), (192, undef), (191, undef), (190, undef), (189, undef)] ++ [(4, .string frame'4), (5, .int .i64 at'5), (6, .int .u8 b'6), (27, .pointer (some ⟨b_y'27b, 0, none⟩)), (29, .int .i64 s'29), (184, .bool false), (188, .bool false)]) [(4, .string frame'4), (5, .int .i64 at'5), (6, .int .u8 b'6), (27, .pointer (some ⟨b_y'27b, 0, none⟩)), (29, .int .i64 s'29), (198, .bool false)] (by kernel_rfl) (by kernel_rfl) (fun _ hx => by cases hx) (fun w hT _ => by kernel_rfl) fun a97 hs98 hd99 hS100 => ?_
      refine dr_done (by kernel_rfl) ?_
      have hs101 := hs98.kept [4, 5, 6, 27, 29, 198] [(4, .string frame'4), (5, .int .i64 at'5), (6, .int .u8 b'6), (27, .pointer (some ⟨b_y'27b, 0, none⟩)), (29, .int .i64 s'29), (198, .bool false)] (by kernel_rfl)
      exact f6_j12_ok hbf hbk h_frame'4 h_at'5 h_b'6 h_y'27b_0 h_y'27b_1 h_y'27b_2  hQ hX hr hm0 hst7 hs101 h_s'29
    rw [if_neg hb95] at hr
    rw [(neT hb95)] at hs92
    have hs102 := hs92.kept [4, 5, 6, 27, 29, 184, 188] [(4, .string frame'4), (5, .int .i64 at'5), (6, .int .u8 b'6), (27, .pointer (some ⟨b_y'27b, 0, none⟩)), (29, .int .i64 s'29), (184, .bool false), (188, .bool true)] (by kernel_rfl)
    refine dr_q (fuel := 9) [16] [4, 5, 6, 27, 29, 184, 188, 189] [] hs102 hd93 ⟨hst7, fun _ hx => by cases hx⟩ (by kernel_rfl) (by kernel_rfl) ([(189, .pointer (some ⟨b_y'27b, 2, none⟩))] ++ [(4, .string frame'4), (5, .int .i64 at'5), (6, .int .u8 b'6), (27, .pointer (some ⟨b_y'27b, 0, none⟩)), (29, .int .i64 s'29), (184, .bool false), (188, .bool true)]) [(4, .string frame'4), (5, .int .i64 at'5), (6, .int .u8 b'6), (27, .pointer (some ⟨b_y'27b, 0, none⟩)), (29, .int .i64 s'29), (184, .bool false), (188, .bool true), (189, .pointer (some ⟨b_y'27b, 2, none⟩))] (by kernel_rfl) (by kernel_rfl) (fun _ hx => by cases hx) (fun w hT _ => by kernel_rfl) fun a103 hs104 hd105 hS106 => ?_
    refine dr_vp (fuel := 8) 17 190 (.string y'27b.f2) [] hs104 hd105 ⟨hst7, fun _ hx => by cases hx⟩ (by kernel_rfl) (by kernel_rfl) (by kernel_rfl) (fun _ hx => by cases hx) (by kernel_rfl) (fun w hT hF => ld1_run (P := Try.prog) (ad := ⟨b_y'27b, 2, none⟩) (by kernel_rfl) (W.St.ocell [] hT 2 (Nat.le_of_ble_eq_true rfl))) fun a108 hs109 hd107 hS110 => ?_
    refine dr_q (fuel := 7) [18] [4, 5, 6, 27, 29, 184, 188, 190, 191] [] hs109 hd107 ⟨hst7, fun _ hx => by cases hx⟩ (by kernel_rfl) (by kernel_rfl) ([(191, .int .i64 s'29)] ++ ((190, .string y'27b.f2) :: [(4, .string frame'4), (5, .int .i64 at'5), (6, .int .u8 b'6), (27, .pointer (some ⟨b_y'27b, 0, none⟩)), (29, .int .i64 s'29), (184, .bool false), (188, .bool true), (189, .pointer (some ⟨b_y'27b, 2, none⟩))])) [(4, .string frame'4), (5, .int .i64 at'5), (6, .int .u8 b'6), (27, .pointer (some ⟨b_y'27b, 0, none⟩)), (29, .int .i64 s'29), (184, .bool false), (188, .bool true), (190, .string y'27b.f2), (191, .int .i64 s'29)] (by kernel_rfl) (by kernel_rfl) (fun _ hx => by cases hx) (fun w hT _ => by kernel_rfl) fun a111 hs112 hd113 hS114 => ?_
    obtain ⟨c116, hcq117, hr⟩ := ofO_el hr
    refine dr_vp (fuel := 6) 19 192 (.int .u8 c116) [] hs112 hd113 ⟨hst7, fun _ hx => by cases hx⟩ (by kernel_rfl) (by kernel_rfl) (by kernel_rfl) (fun _ hx => by cases hx) (by kernel_rfl) (fun w hT hF => sxq_run (P := Try.prog) (by kernel_rfl) hcq117) fun a118 hs119 hd115 hS120 => ?_
    refine dr_q (fuel := 4) [20, 21] [4, 5, 6, 27, 29, 184, 188, 192, 193, 194] [] hs119 hd115 ⟨hst7, fun _ hx => by cases hx⟩ (by kernel_rfl) (by kernel_rfl) ([(194, .int .i64 s'29), (193, .string frame'4)] ++ ((192, .int .u8 c116) :: [(4, .string frame'4), (5, .int .i64 at'5), (6, .int .u8 b'6), (27, .pointer (some ⟨b_y'27b, 0, none⟩)), (29, .int .i64 s'29), (184, .bool false), (188, .bool true), (190, .string y'27b.f2), (191, .int .i64 s'29)])) [(4, .string frame'4), (5, .int .i64 at'5), (6, .int .u8 b'6), (27, .pointer (some ⟨b_y'27b, 0, none⟩)), (29, .int .i64 s'29), (184, .bool false), (188, .bool true), (192, .int .u8 c116), (193, .string frame'4), (194, .int .i64 s'29)] (by kernel_rfl) (by kernel_rfl) (fun _ hx => by cases hx) (fun w hT _ => by kernel_rfl) fun a121 hs122 hd123 hS124 => ?_
    obtain ⟨c126, hcq127, hr⟩ := ofO_el hr
    refine dr_vp (fuel := 3) 22 195 (.int .u8 c126) [] hs122 hd123 ⟨hst7, fun _ hx => by cases hx⟩ (by kernel_rfl) (by kernel_rfl) (by kernel_rfl) (fun _ hx => by cases hx) (by kernel_rfl) (fun w hT hF => sxq_run (P := Try.prog) (by kernel_rfl) hcq127) fun a128 hs129 hd125 hS130 => ?_
    refine dr_q (fuel := 0) [23, 24, 25] [4, 5, 6, 27, 29, 198] [] hs129 hd125 ⟨hst7, fun _ hx => by cases hx⟩ (by kernel_rfl) (by kernel_rfl) ([(198, .bool (c116 != c126)), (197, .bool (c116 != c126)), (196, .bool (c116 != c126))] ++ ((195, .int .u8 c126) :: [(4, .string frame'4), (5, .int .i64 at'5), (6, .int .u8 b'6), (27, .pointer (some ⟨b_y'27b, 0, none⟩)), (29, .int .i64 s'29), (184, .bool false), (188, .bool true), (192, .int .u8 c116), (193, .string frame'4), (194, .int .i64 s'29)])) [(4, .string frame'4), (5, .int .i64 at'5), (6, .int .u8 b'6), (27, .pointer (some ⟨b_y'27b, 0, none⟩)), (29, .int .i64 s'29), (198, .bool (c116 != c126))] (by kernel_rfl) (by kernel_rfl) (fun _ hx => by cases hx) (fun w hT _ => by kernel_rfl) fun a131 hs132 hd133 hS134 => ?_
    refine dr_done (by kernel_rfl) ?_
    have hs135 := hs132.kept [4, 5, 6, 27, 29, 198] [(4, .string frame'4), (5, .int .i64 at'5), (6, .int .u8 b'6), (27, .pointer (some ⟨b_y'27b, 0, none⟩)), (29, .int .i64 s'29), (198, .bool (c116 != c126))] (by kernel_rfl)
    exact f6_j12_ok hbf hbk h_frame'4 h_at'5 h_b'6 h_y'27b_0 h_y'27b_1 h_y'27b_2  hQ hX hr hm0 hst7 hs135 h_s'29
  rw [if_pos hb13] at hr
  rw [(eqT hb13)] at hs10
  have hs14 := hs10.kept [4, 5, 6, 27, 29, 176] [(4, .string frame'4), (5, .int .i64 at'5), (6, .int .u8 b'6), (27, .pointer (some ⟨b_y'27b, 0, none⟩)), (29, .int .i64 s'29), (176, .bool true)] (by kernel_rfl)
  refine dr_q (fuel := 21) [4] [4, 5, 6, 27, 29, 176, 177] [] hs14 hd11 ⟨hst7, fun _ hx => by cases hx⟩ (by kernel_rfl) (by kernel_rfl) ([(177, .pointer (some ⟨b_y'27b, 2, none⟩))] ++ [(4, .string frame'4), (5, .int .i64 at'5), (6, .int .u8 b'6), (27, .pointer (some ⟨b_y'27b, 0, none⟩)), (29, .int .i64 s'29), (176, .bool true)]) [(4, .string frame'4), (5, .int .i64 at'5), (6, .int .u8 b'6), (27, .pointer (some ⟨b_y'27b, 0, none⟩)), (29, .int .i64 s'29), (176, .bool true), (177, .pointer (some ⟨b_y'27b, 2, none⟩))] (by kernel_rfl) (by kernel_rfl) (fun _ hx => by cases hx) (fun w hT _ => by kernel_rfl) fun a15 hs16 hd17 hS18 => ?_
  refine dr_vp (fuel := 20) 5 178 (.string y'27b.f2) [] hs16 hd17 ⟨hst7, fun _ hx => by cases hx⟩ (by kernel_rfl) (by kernel_rfl) (by kernel_rfl) (fun _ hx => by cases hx) (by kernel_rfl) (fun w hT hF => ld1_run (P := Try.prog) (ad := ⟨b_y'27b, 2, none⟩) (by kernel_rfl) (W.St.ocell [] hT 2 (Nat.le_of_ble_eq_true rfl))) fun a20 hs21 hd19 hS22 => ?_
  refine dr_q (fuel := 19) [6] [4, 5, 6, 27, 29, 176, 178, 179] [] hs21 hd19 ⟨hst7, fun _ hx => by cases hx⟩ (by kernel_rfl) (by kernel_rfl) ([(179, .int .i64 s'29)] ++ ((178, .string y'27b.f2) :: [(4, .string frame'4), (5, .int .i64 at'5), (6, .int .u8 b'6), (27, .pointer (some ⟨b_y'27b, 0, none⟩)), (29, .int .i64 s'29), (176, .bool true), (177, .pointer (some ⟨b_y'27b, 2, none⟩))])) [(4, .string frame'4), (5, .int .i64 at'5), (6, .int .u8 b'6), (27, .pointer (some ⟨b_y'27b, 0, none⟩)), (29, .int .i64 s'29), (176, .bool true), (178, .string y'27b.f2), (179, .int .i64 s'29)] (by kernel_rfl) (by kernel_rfl) (fun _ hx => by cases hx) (fun w hT _ => by kernel_rfl) fun a23 hs24 hd25 hS26 => ?_
  obtain ⟨c28, hcq29, hr⟩ := ofO_el hr
  refine dr_vp (fuel := 18) 7 180 (.int .u8 c28) [] hs24 hd25 ⟨hst7, fun _ hx => by cases hx⟩ (by kernel_rfl) (by kernel_rfl) (by kernel_rfl) (fun _ hx => by cases hx) (by kernel_rfl) (fun w hT hF => sxq_run (P := Try.prog) (by kernel_rfl) hcq29) fun a30 hs31 hd27 hS32 => ?_
  refine dr_q (fuel := 14) [8, 9, 10, 11] [4, 5, 6, 27, 29, 184] [] hs31 hd27 ⟨hst7, fun _ hx => by cases hx⟩ (by kernel_rfl) (by kernel_rfl) ([(184, .bool (c28 != b'6)), (183, .bool (c28 != b'6)), (182, .bool (c28 != b'6)), (181, .int .u8 b'6)] ++ ((180, .int .u8 c28) :: [(4, .string frame'4), (5, .int .i64 at'5), (6, .int .u8 b'6), (27, .pointer (some ⟨b_y'27b, 0, none⟩)), (29, .int .i64 s'29), (176, .bool true), (178, .string y'27b.f2), (179, .int .i64 s'29)])) [(4, .string frame'4), (5, .int .i64 at'5), (6, .int .u8 b'6), (27, .pointer (some ⟨b_y'27b, 0, none⟩)), (29, .int .i64 s'29), (184, .bool (c28 != b'6))] (by kernel_rfl) (by kernel_rfl) (fun _ hx => by cases hx) (fun w hT _ => by kernel_rfl) fun a33 hs34 hd35 hS36 => ?_
  by_cases hb37 : c28 = b'6
  rotate_left
  · rw [if_neg hb37] at hr
    rw [(neT hb37)] at hs34
    have hs84 := hs34.kept [4, 5, 6, 27, 29, 184] [(4, .string frame'4), (5, .int .i64 at'5), (6, .int .u8 b'6), (27, .pointer (some ⟨b_y'27b, 0, none⟩)), (29, .int .i64 s'29), (184, .bool true)] (by kernel_rfl)
    refine dr_q (fuel := 0) [12, 13, 14, 15, 16, 17, 18, 19, 20, 21, 22, 23, 24, 25] [4, 5, 6, 27, 29, 198] [] hs84 hd35 ⟨hst7, fun _ hx => by cases hx⟩ (by kernel_rfl) (by kernel_rfl) ([(198, .bool true), (197, undef), (196, undef), (195, undef), (194, undef), (193, undef), (192, undef), (191, undef), (190, undef), (189, undef), (188, undef), (187, undef), (186, undef), (185, undef)] ++ [(4, .string frame'4), (5, .int .i64 at'5), (6, .int .u8 b'6), (27, .pointer (some ⟨b_y'27b, 0, none⟩)), (29, .int .i64 s'29), (184, .bool true)]) [(4, .string frame'4), (5, .int .i64 at'5), (6, .int .u8 b'6), (27, .pointer (some ⟨b_y'27b, 0, none⟩)), (29, .int .i64 s'29), (198, .bool true)] (by kernel_rfl) (by kernel_rfl) (fun _ hx => by cases hx) (fun w hT _ => by kernel_rfl) fun a85 hs86 hd87 hS88 => ?_
    refine dr_done (by kernel_rfl) ?_
    have hs89 := hs86.kept [4, 5, 6, 27, 29, 198] [(4, .string frame'4), (5, .int .i64 at'5), (6, .int .u8 b'6), (27, .pointer (some ⟨b_y'27b, 0, none⟩)), (29, .int .i64 s'29), (198, .bool true)] (by kernel_rfl)
    exact f6_j12_ok hbf hbk h_frame'4 h_at'5 h_b'6 h_y'27b_0 h_y'27b_1 h_y'27b_2  hQ hX hr hm0 hst7 hs89 h_s'29
  rw [if_pos hb37] at hr
  rw [(neF hb37)] at hs34
  have hs38 := hs34.kept [4, 5, 6, 27, 29, 184] [(4, .string frame'4), (5, .int .i64 at'5), (6, .int .u8 b'6), (27, .pointer (some ⟨b_y'27b, 0, none⟩)), (29, .int .i64 s'29), (184, .bool false)] (by kernel_rfl)
  refine dr_q (fuel := 10) [12, 13, 14, 15] [4, 5, 6, 27, 29, 184, 188] [] hs38 hd35 ⟨hst7, fun _ hx => by cases hx⟩ (by kernel_rfl) (by kernel_rfl) ([(188, .bool (s'29 != at'5)), (187, .bool (s'29 != at'5)), (186, .int .i64 at'5), (185, .int .i64 s'29)] ++ [(4, .string frame'4), (5, .int .i64 at'5), (6, .int .u8 b'6), (27, .pointer (some ⟨b_y'27b, 0, none⟩)), (29, .int .i64 s'29), (184, .bool false)]) [(4, .string frame'4), (5, .int .i64 at'5), (6, .int .u8 b'6), (27, .pointer (some ⟨b_y'27b, 0, none⟩)), (29, .int .i64 s'29), (184, .bool false), (188, .bool (s'29 != at'5))] (by kernel_rfl) (by kernel_rfl) (fun _ hx => by cases hx) (fun w hT _ => by kernel_rfl) fun a39 hs40 hd41 hS42 => ?_
  by_cases hb43 : s'29 = at'5
  · rw [if_pos hb43] at hr
    rw [(neF hb43)] at hs40
    have hs44 := hs40.kept [4, 5, 6, 27, 29, 184, 188] [(4, .string frame'4), (5, .int .i64 at'5), (6, .int .u8 b'6), (27, .pointer (some ⟨b_y'27b, 0, none⟩)), (29, .int .i64 s'29), (184, .bool false), (188, .bool false)] (by kernel_rfl)
    refine dr_q (fuel := 0) [16, 17, 18, 19, 20, 21, 22, 23, 24, 25] [4, 5, 6, 27, 29, 198] [] hs44 hd41 ⟨hst7, fun _ hx => by cases hx⟩ (by kernel_rfl) (by kernel_rfl) ([(198, .bool false), (197, .bool false), (196, undef), (195, undef), (194, undef), (193, undef), (192, undef), (191, undef), (190, undef), (189, undef)] ++ [(4, .string frame'4), (5, .int .i64 at'5), (6, .int .u8 b'6), (27, .pointer (some ⟨b_y'27b, 0, none⟩)), (29, .int .i64 s'29), (184, .bool false), (188, .bool false)]) [(4, .string frame'4), (5, .int .i64 at'5), (6, .int .u8 b'6), (27, .pointer (some ⟨b_y'27b, 0, none⟩)), (29, .int .i64 s'29), (198, .bool false)] (by kernel_rfl) (by kernel_rfl) (fun _ hx => by cases hx) (fun w hT _ => by kernel_rfl) fun a45 hs46 hd47 hS48 => ?_
    refine dr_done (by kernel_rfl) ?_
    have hs49 := hs46.kept [4, 5, 6, 27, 29, 198] [(4, .string frame'4), (5, .int .i64 at'5), (6, .int .u8 b'6), (27, .pointer (some ⟨b_y'27b, 0, none⟩)), (29, .int .i64 s'29), (198, .bool false)] (by kernel_rfl)
    exact f6_j12_ok hbf hbk h_frame'4 h_at'5 h_b'6 h_y'27b_0 h_y'27b_1 h_y'27b_2  hQ hX hr hm0 hst7 hs49 h_s'29
  rw [if_neg hb43] at hr
  rw [(neT hb43)] at hs40
  have hs50 := hs40.kept [4, 5, 6, 27, 29, 184, 188] [(4, .string frame'4), (5, .int .i64 at'5), (6, .int .u8 b'6), (27, .pointer (some ⟨b_y'27b, 0, none⟩)), (29, .int .i64 s'29), (184, .bool false), (188, .bool true)] (by kernel_rfl)
  refine dr_q (fuel := 9) [16] [4, 5, 6, 27, 29, 184, 188, 189] [] hs50 hd41 ⟨hst7, fun _ hx => by cases hx⟩ (by kernel_rfl) (by kernel_rfl) ([(189, .pointer (some ⟨b_y'27b, 2, none⟩))] ++ [(4, .string frame'4), (5, .int .i64 at'5), (6, .int .u8 b'6), (27, .pointer (some ⟨b_y'27b, 0, none⟩)), (29, .int .i64 s'29), (184, .bool false), (188, .bool true)]) [(4, .string frame'4), (5, .int .i64 at'5), (6, .int .u8 b'6), (27, .pointer (some ⟨b_y'27b, 0, none⟩)), (29, .int .i64 s'29), (184, .bool false), (188, .bool true), (189, .pointer (some ⟨b_y'27b, 2, none⟩))] (by kernel_rfl) (by kernel_rfl) (fun _ hx => by cases hx) (fun w hT _ => by kernel_rfl) fun a51 hs52 hd53 hS54 => ?_
  refine dr_vp (fuel := 8) 17 190 (.string y'27b.f2) [] hs52 hd53 ⟨hst7, fun _ hx => by cases hx⟩ (by kernel_rfl) (by kernel_rfl) (by kernel_rfl) (fun _ hx => by cases hx) (by kernel_rfl) (fun w hT hF => ld1_run (P := Try.prog) (ad := ⟨b_y'27b, 2, none⟩) (by kernel_rfl) (W.St.ocell [] hT 2 (Nat.le_of_ble_eq_true rfl))) fun a56 hs57 hd55 hS58 => ?_
  refine dr_q (fuel := 7) [18] [4, 5, 6, 27, 29, 184, 188, 190, 191] [] hs57 hd55 ⟨hst7, fun _ hx => by cases hx⟩ (by kernel_rfl) (by kernel_rfl) ([(191, .int .i64 s'29)] ++ ((190, .string y'27b.f2) :: [(4, .string frame'4), (5, .int .i64 at'5), (6, .int .u8 b'6), (27, .pointer (some ⟨b_y'27b, 0, none⟩)), (29, .int .i64 s'29), (184, .bool false), (188, .bool true), (189, .pointer (some ⟨b_y'27b, 2, none⟩))])) [(4, .string frame'4), (5, .int .i64 at'5), (6, .int .u8 b'6), (27, .pointer (some ⟨b_y'27b, 0, none⟩)), (29, .int .i64 s'29), (184, .bool false), (188, .bool true), (190, .string y'27b.f2), (191, .int .i64 s'29)] (by kernel_rfl) (by kernel_rfl) (fun _ hx => by cases hx) (fun w hT _ => by kernel_rfl) fun a59 hs60 hd61 hS62 => ?_
  obtain ⟨c64, hcq65, hr⟩ := ofO_el hr
  refine dr_vp (fuel := 6) 19 192 (.int .u8 c64) [] hs60 hd61 ⟨hst7, fun _ hx => by cases hx⟩ (by kernel_rfl) (by kernel_rfl) (by kernel_rfl) (fun _ hx => by cases hx) (by kernel_rfl) (fun w hT hF => sxq_run (P := Try.prog) (by kernel_rfl) hcq65) fun a66 hs67 hd63 hS68 => ?_
  refine dr_q (fuel := 4) [20, 21] [4, 5, 6, 27, 29, 184, 188, 192, 193, 194] [] hs67 hd63 ⟨hst7, fun _ hx => by cases hx⟩ (by kernel_rfl) (by kernel_rfl) ([(194, .int .i64 s'29), (193, .string frame'4)] ++ ((192, .int .u8 c64) :: [(4, .string frame'4), (5, .int .i64 at'5), (6, .int .u8 b'6), (27, .pointer (some ⟨b_y'27b, 0, none⟩)), (29, .int .i64 s'29), (184, .bool false), (188, .bool true), (190, .string y'27b.f2), (191, .int .i64 s'29)])) [(4, .string frame'4), (5, .int .i64 at'5), (6, .int .u8 b'6), (27, .pointer (some ⟨b_y'27b, 0, none⟩)), (29, .int .i64 s'29), (184, .bool false), (188, .bool true), (192, .int .u8 c64), (193, .string frame'4), (194, .int .i64 s'29)] (by kernel_rfl) (by kernel_rfl) (fun _ hx => by cases hx) (fun w hT _ => by kernel_rfl) fun a69 hs70 hd71 hS72 => ?_
  obtain ⟨c74, hcq75, hr⟩ := ofO_el hr
  refine dr_vp (fuel := 3) 22 195 (.int .u8 c74) [] hs70 hd71 ⟨hst7, fun _ hx => by cases hx⟩ (by kernel_rfl) (by kernel_rfl) (by kernel_rfl) (fun _ hx => by cases hx) (by kernel_rfl) (fun w hT hF => sxq_run (P := Try.prog) (by kernel_rfl) hcq75) fun a76 hs77 hd73 hS78 => ?_
  refine dr_q (fuel := 0) [23, 24, 25] [4, 5, 6, 27, 29, 198] [] hs77 hd73 ⟨hst7, fun _ hx => by cases hx⟩ (by kernel_rfl) (by kernel_rfl) ([(198, .bool (c64 != c74)), (197, .bool (c64 != c74)), (196, .bool (c64 != c74))] ++ ((195, .int .u8 c74) :: [(4, .string frame'4), (5, .int .i64 at'5), (6, .int .u8 b'6), (27, .pointer (some ⟨b_y'27b, 0, none⟩)), (29, .int .i64 s'29), (184, .bool false), (188, .bool true), (192, .int .u8 c64), (193, .string frame'4), (194, .int .i64 s'29)])) [(4, .string frame'4), (5, .int .i64 at'5), (6, .int .u8 b'6), (27, .pointer (some ⟨b_y'27b, 0, none⟩)), (29, .int .i64 s'29), (198, .bool (c64 != c74))] (by kernel_rfl) (by kernel_rfl) (fun _ hx => by cases hx) (fun w hT _ => by kernel_rfl) fun a79 hs80 hd81 hS82 => ?_
  refine dr_done (by kernel_rfl) ?_
  have hs83 := hs80.kept [4, 5, 6, 27, 29, 198] [(4, .string frame'4), (5, .int .i64 at'5), (6, .int .u8 b'6), (27, .pointer (some ⟨b_y'27b, 0, none⟩)), (29, .int .i64 s'29), (198, .bool (c64 != c74))] (by kernel_rfl)
  exact f6_j12_ok hbf hbk h_frame'4 h_at'5 h_b'6 h_y'27b_0 h_y'27b_1 h_y'27b_2  hQ hX hr hm0 hst7 hs83 h_s'29
def f6_l10_b (frame'4 : ByteArray) (at'5 : Int) (b'6 : Int) (y'27b : S36) (k1 : Prop) (Q : Bool → Prop) (X : Int → Prop) (s'29 : Int) : Prop := f6_j11 frame'4 at'5 b'6 y'27b Q X k1 s'29
def f6_l10 (frame'4 : ByteArray) (at'5 : Int) (b'6 : Int) (y'27b : S36) (k1 : Prop) (Q : Bool → Prop) (s'29 : Int) : Prop := ∀ X : Int → Prop, (∀ {s'29 : Int}, f6_l10_b frame'4 at'5 b'6 y'27b k1 Q X s'29 → X s'29) → X s'29
theorem f6_l10_ok {z : Base} {m0 : Mem} {G : List Grp} {b : Frame} {cs : List Frame} {R : Ending → World → Prop} {b_y'27b : Nat} {frame'4 : ByteArray} {at'5 : Int} {b'6 : Int} {y'27b : S36} {k1 : Prop} {Q : Bool → Prop}  (hbf : b.fn = 6) (hbk : b.kind = .normal) (h_frame'4 : frame'4.size ≤ reach) (h_at'5 : InR .i64 at'5) (h_b'6 : InR .u8 b'6) (h_y'27b_0 : InR .i64 y'27b.f0) (h_y'27b_1 : InR .i64 y'27b.f1) (h_y'27b_2 : y'27b.f2.size ≤ reach)  (hk1 : ∀ (_u : Unit), k1  → f6_l10_Yk1 z m0 G b cs R b_y'27b frame'4 at'5 b'6 y'27b ) (hQ : ∀ {r : Bool}, Q r → f6_YR z m0 G R  r) : ∀ {s'29 : Int}, f6_l10 frame'4 at'5 b'6 y'27b k1 Q s'29 → f6_l10_Y z m0 G b cs R b_y'27b frame'4 at'5 b'6 y'27b s'29 := by
  intro s'29 hr
  refine hr (f6_l10_Y z m0 G b cs R b_y'27b frame'4 at'5 b'6 y'27b) ?_
  intro s'29 hr m w a0  hm0 hst hs0 h_s'29
  have hX : ∀ {s'29 : Int}, f6_l10_Y z m0 G b cs R b_y'27b frame'4 at'5 b'6 y'27b s'29 → f6_l10_Y z m0 G b cs R b_y'27b frame'4 at'5 b'6 y'27b s'29 := fun h => h
  unfold f6_l10_b at hr
  refine to_seq (sub [1, 1, 1, 1, 1, 1, 1, 1, 1, 1, 1, 1, 1, 1, 0, 1, 0, 0, 0] f6_c) (sub [1, 1, 1, 1, 1, 1, 1, 1, 1, 1, 1, 1, 1, 1, 0, 1, 0, 0, 1] f6_c) (by kernel_rfl) ?_
  have hs1 := hs0.kept [4, 5, 6, 27, 29] [(4, .string frame'4), (5, .int .i64 at'5), (6, .int .u8 b'6), (27, .pointer (some ⟨b_y'27b, 0, none⟩)), (29, .int .i64 s'29)] (by kernel_rfl)
  exact f6_j11_ok hbf hbk h_frame'4 h_at'5 h_b'6 h_y'27b_0 h_y'27b_1 h_y'27b_2  hQ hX hk1 hr hm0 hst hs1 h_s'29
def f6_j9_Y (z : Base) (m0 : Mem) (G : List Grp) (b : Frame) (cs : List Frame) (R : Ending → World → Prop) (a_x1 : Option Addr) (c_x1 : Nat) (x0 : Int) (x1 : (List S40)) (x2 : Int) (x3 : Int) (x4 : ByteArray) (x5 : Int) (x6 : Int) (y'27b : S36) (t'166 : Bool) : Prop := ∀ {m : Mem} {w : World} {a : Act} {b_y'27b : Nat}, m0.le m → W.St z w m ([(b_y'27b, .cells [.int .i64 y'27b.f0, .int .i64 y'27b.f1, .string y'27b.f2].toArray 37 (0, 0))] :: G) → Has 199 a [(4, .string x4), (5, .int .i64 x5), (6, .int .u8 x6), (27, .pointer (some ⟨b_y'27b, 0, none⟩)), (166, .bool t'166)] → (InR .i64 y'27b.f0) → (InR .i64 y'27b.f1) → (y'27b.f2.size ≤ reach) → Reach Try.prog b cs R [.code (sub [1, 1, 1, 1, 1, 1, 1, 1, 1, 1, 1, 1, 1, 0, 1] f6_c), .code (sub [1, 1, 1, 1, 1, 1, 1, 1, 1, 1, 1, 1, 1, 1] f6_c)] a w
def f6_j9 (x0 : Int) (x1 : (List S40)) (x2 : Int) (x3 : Int) (x4 : ByteArray) (x5 : Int) (x6 : Int) (Q : Bool → Prop) (y'27b : S36) (t'166 : Bool) : Prop := if t'166 = true then (Q false) else (f6_l10 x4 x5 x6 y'27b (Q true) Q (0 : Int))
theorem f6_j9_ok {z : Base} {m0 : Mem} {G : List Grp} {b : Frame} {cs : List Frame} {R : Ending → World → Prop} {a_x1 : Option Addr} {c_x1 : Nat} {x0 : Int} {x1 : (List S40)} {x2 : Int} {x3 : Int} {x4 : ByteArray} {x5 : Int} {x6 : Int} {Q : Bool → Prop} (hbf : b.fn = 6) (hbk : b.kind = .normal) (h_x0 : InR .i64 x0) (h_x1 : Sl k40 48 m0 a_x1 c_x1 x1) (h_x2 : InR .i64 x2) (h_x3 : InR .i64 x3) (h_x4 : x4.size ≤ reach) (h_x5 : InR .i64 x5) (h_x6 : InR .u8 x6)  (hQ : ∀ {r : Bool}, Q r → f6_YR z m0 G R  r) : ∀ {y'27b : S36} {t'166 : Bool}, f6_j9 x0 x1 x2 x3 x4 x5 x6 Q y'27b t'166 → f6_j9_Y z m0 G b cs R a_x1 c_x1 x0 x1 x2 x3 x4 x5 x6 y'27b t'166 := by
  intro y'27b t'166 hr m w a0 b_y'27b hm0 hst hs0 h_y'27b_0 h_y'27b_1 h_y'27b_2
  unfold f6_j9 at hr
  by_cases hb1 : t'166 = true
  · rw [if_pos hb1] at hr
    rw [(bT hb1)] at hs0
    refine to_then (.tmp 166) (sub [1, 1, 1, 1, 1, 1, 1, 1, 1, 1, 1, 1, 1, 0, 1, 0] f6_c) (sub [1, 1, 1, 1, 1, 1, 1, 1, 1, 1, 1, 1, 1, 0, 1, 1] f6_c) (by kernel_rfl) hs0 (by kernel_rfl) ?_
    refine to_seq (sub [1, 1, 1, 1, 1, 1, 1, 1, 1, 1, 1, 1, 1, 0, 1, 0, 0] f6_c) (sub [1, 1, 1, 1, 1, 1, 1, 1, 1, 1, 1, 1, 1, 0, 1, 0, 1] f6_c) (by kernel_rfl) ?_
    refine to_nd 27 1 (rops (sub [1, 1, 1, 1, 1, 1, 1, 1, 1, 1, 1, 1, 1, 0, 1, 0, 0] f6_c)) (by kernel_rfl) (by kernel_rfl) ?_
    refine nd_q (c := 0) 1 [14] hs0 [(14, .bool false)] (by kernel_rfl) fun a2 hs3 => ?_
    refine nd_done ?_
    have hst4 := W.St.drop [] hst
    exact to_ret (v := .bool false) (by kernel_rfl) hbf Try.func6 hbk hs3 (by kernel_rfl) (hQ hr hm0 hst4 )
  rw [if_neg hb1] at hr
  rw [(bF hb1)] at hs0
  refine to_else (.tmp 166) (sub [1, 1, 1, 1, 1, 1, 1, 1, 1, 1, 1, 1, 1, 0, 1, 0] f6_c) (sub [1, 1, 1, 1, 1, 1, 1, 1, 1, 1, 1, 1, 1, 0, 1, 1] f6_c) (by kernel_rfl) hs0 (by kernel_rfl) ?_
  refine to_skip (by kernel_rfl) ?_
  refine to_seq (sub [1, 1, 1, 1, 1, 1, 1, 1, 1, 1, 1, 1, 1, 1, 0] f6_c) (sub [1, 1, 1, 1, 1, 1, 1, 1, 1, 1, 1, 1, 1, 1, 1] f6_c) (by kernel_rfl) ?_
  refine to_seq (sub [1, 1, 1, 1, 1, 1, 1, 1, 1, 1, 1, 1, 1, 1, 0, 0] f6_c) (sub [1, 1, 1, 1, 1, 1, 1, 1, 1, 1, 1, 1, 1, 1, 0, 1] f6_c) (by kernel_rfl) ?_
  refine to_nd 28 1 (rops (sub [1, 1, 1, 1, 1, 1, 1, 1, 1, 1, 1, 1, 1, 1, 0, 0] f6_c)) (by kernel_rfl) (by kernel_rfl) ?_
  refine nd_q (c := 0) 1 [4, 5, 6, 27, 29] hs0 [(4, .string x4), (5, .int .i64 x5), (6, .int .u8 x6), (27, .pointer (some ⟨b_y'27b, 0, none⟩)), (29, .int .i64 (0 : Int))] (by kernel_rfl) fun a5 hs6 => ?_
  refine nd_done ?_
  refine to_block 4 (sub [1, 1, 1, 1, 1, 1, 1, 1, 1, 1, 1, 1, 1, 1, 0, 1, 0] f6_c) (by kernel_rfl) ?_
  refine to_loop (sub [1, 1, 1, 1, 1, 1, 1, 1, 1, 1, 1, 1, 1, 1, 0, 1, 0, 0] f6_c) (by kernel_rfl) ?_
  have hs7 := hs6.kept [4, 5, 6, 27, 29] [(4, .string x4), (5, .int .i64 x5), (6, .int .u8 x6), (27, .pointer (some ⟨b_y'27b, 0, none⟩)), (29, .int .i64 (0 : Int))] (by kernel_rfl)
  refine f6_l10_ok hbf hbk h_x4 h_x5 h_x6 h_y'27b_0 h_y'27b_1 h_y'27b_2  ?_ (fun hq => f6_YR_mono hm0 (hQ hq)) hr (Mem.le.refl _) hst hs7 (inr_of (by kernel_rfl))
  intro _ hr
  intro m9 w11 a13  hm10 hst12 hs14 
  refine to_seq (sub [1, 1, 1, 1, 1, 1, 1, 1, 1, 1, 1, 1, 1, 1, 1, 0] f6_c) (sub [1, 1, 1, 1, 1, 1, 1, 1, 1, 1, 1, 1, 1, 1, 1, 1] f6_c) (by kernel_rfl) ?_
  refine to_nd 33 1 (rops (sub [1, 1, 1, 1, 1, 1, 1, 1, 1, 1, 1, 1, 1, 1, 1, 0] f6_c)) (by kernel_rfl) (by kernel_rfl) ?_
  refine nd_q (c := 0) 1 [14] hs14 [(14, .bool true)] (by kernel_rfl) fun a15 hs16 => ?_
  refine nd_done ?_
  exact to_ret (v := .bool true) (by kernel_rfl) hbf Try.func6 hbk hs16 (by kernel_rfl) (hQ hr (hm0.trans hm10) hst12 )
def f6_j8_Y (z : Base) (m0 : Mem) (G : List Grp) (b : Frame) (cs : List Frame) (R : Ending → World → Prop) (a_x1 : Option Addr) (c_x1 : Nat) (x0 : Int) (x1 : (List S40)) (x2 : Int) (x3 : Int) (x4 : ByteArray) (x5 : Int) (x6 : Int) (c'15b : S62) (n'17 : Int) (k'21 : Int) : Prop := ∀ {m : Mem} {w : World} {a : Act} {b_c'15b : Nat} {I_c'15b : Grp}, m0.le m → W.St z w m (I_c'15b :: G) → Has 199 a [(2, .int .i64 x2), (3, .int .i64 x3), (4, .string x4), (5, .int .i64 x5), (6, .int .u8 x6), (15, .pointer (some ⟨b_c'15b, 0, none⟩)), (17, .int .i64 n'17), (21, .int .i64 k'21)] → (OwnS62 m b_c'15b I_c'15b c'15b) → (InR .i64 n'17) → (InR .i64 k'21) → Reach Try.prog b cs R [.code (sub [1, 1, 1, 1, 1, 1, 1, 1, 1, 1, 1] f6_c)] a w
def f6_j8 (x0 : Int) (x1 : (List S40)) (x2 : Int) (x3 : Int) (x4 : ByteArray) (x5 : Int) (x6 : Int) (Q : Bool → Prop) (c'15b : S62) (n'17 : Int) (k'21 : Int) : Prop := f25 c'15b k'21 fun r3 => f25 r3.2.2 n'17 fun r25 => if r3.2.1 = (0 : Int) then (if r25.2.1 = (0 : Int) then (if ((r3.1.f0 == x2) && ((r3.1.f1 == x3) && ((r3.1.f2.toList == x4.toList) && true))) = true then (if r25.1.f0 = x2 then (if r25.1.f1 = x3 then (f6_j9 x0 x1 x2 x3 x4 x5 x6 Q r25.1 ((r25.1.f2.size : Int) != (x4.size : Int))) else (f6_j9 x0 x1 x2 x3 x4 x5 x6 Q r25.1 true)) else (f6_j9 x0 x1 x2 x3 x4 x5 x6 Q r25.1 true)) else (f6_j9 x0 x1 x2 x3 x4 x5 x6 Q r25.1 true)) else (f6_j9 x0 x1 x2 x3 x4 x5 x6 Q r25.1 true)) else (f6_j9 x0 x1 x2 x3 x4 x5 x6 Q r25.1 true)
theorem f6_j8_ok {z : Base} {m0 : Mem} {G : List Grp} {b : Frame} {cs : List Frame} {R : Ending → World → Prop} {a_x1 : Option Addr} {c_x1 : Nat} {x0 : Int} {x1 : (List S40)} {x2 : Int} {x3 : Int} {x4 : ByteArray} {x5 : Int} {x6 : Int} {Q : Bool → Prop} (hbf : b.fn = 6) (hbk : b.kind = .normal) (h_x0 : InR .i64 x0) (h_x1 : Sl k40 48 m0 a_x1 c_x1 x1) (h_x2 : InR .i64 x2) (h_x3 : InR .i64 x3) (h_x4 : x4.size ≤ reach) (h_x5 : InR .i64 x5) (h_x6 : InR .u8 x6)  (hQ : ∀ {r : Bool}, Q r → f6_YR z m0 G R  r) : ∀ {c'15b : S62} {n'17 : Int} {k'21 : Int}, f6_j8 x0 x1 x2 x3 x4 x5 x6 Q c'15b n'17 k'21 → f6_j8_Y z m0 G b cs R a_x1 c_x1 x0 x1 x2 x3 x4 x5 x6 c'15b n'17 k'21 := by
  intro c'15b n'17 k'21 hr m w a0 b_c'15b I_c'15b hm0 hst hs0 h_c'15b h_n'17 h_k'21
  unfold f6_j8 at hr
  refine to_seq (sub [1, 1, 1, 1, 1, 1, 1, 1, 1, 1, 1, 0] f6_c) (sub [1, 1, 1, 1, 1, 1, 1, 1, 1, 1, 1, 1] f6_c) (by kernel_rfl) ?_
  refine to_nd 24 9 (rops (sub [1, 1, 1, 1, 1, 1, 1, 1, 1, 1, 1, 0] f6_c)) (by kernel_rfl) (by kernel_rfl) ?_
  refine nd_q (c := 7) 2 [2, 3, 4, 5, 6, 15, 17, 122, 123] hs0 [(2, .int .i64 x2), (3, .int .i64 x3), (4, .string x4), (5, .int .i64 x5), (6, .int .u8 x6), (15, .pointer (some ⟨b_c'15b, 0, none⟩)), (17, .int .i64 n'17), (122, .pointer (some ⟨b_c'15b, 0, none⟩)), (123, .int .i64 k'21)] (by kernel_rfl) fun a1 hs2 => ?_
  refine nd_op (op_call (some 124) hs2 (by kernel_rfl) (by kernel_rfl) ((f25_ok hst h_c'15b h_k'21 hr).mono ?_))
  rintro _ w4 ⟨r3, I3_i0, hst7, rfl, hf3_0_0, hf3_0_1, hf3_0_2, hf3_1_0, hf3_i0, hr⟩
  revert hr; intro hr
  refine ⟨_, rfl, fun a5 hs6 => ?_⟩
  refine nd_q (c := 3) 3 [2, 3, 4, 5, 6, 15, 17, 125, 126] hs6 [(2, .int .i64 x2), (3, .int .i64 x3), (4, .string x4), (5, .int .i64 x5), (6, .int .u8 x6), (15, .pointer (some ⟨b_c'15b, 0, none⟩)), (17, .int .i64 n'17), (125, .agg #[.int .i64 r3.1.f0, .int .i64 r3.1.f1, .string r3.1.f2]), (126, .int .i64 r3.2.1)] (by kernel_rfl) fun a10 hs11 => ?_
  have hst14 := hst7.alloc (.cells [.int .i64 (0 : Int), .int .i64 (0 : Int), .string ByteArray.empty].toArray 37 (0, 0))
  refine nd_op (op_v (w' := w4.alloc (.cells [.int .i64 (0 : Int), .int .i64 (0 : Int), .string ByteArray.empty].toArray 37 (0, 0))) (some 25) (.pointer (some ⟨w4.heap.size, 0, none⟩)) hs11 (by kernel_rfl) (by kernel_rfl) fun a15 hs16 => ?_)
  generalize w4.heap.size = b12 at hst14 hs16
  generalize w4.alloc (.cells [.int .i64 (0 : Int), .int .i64 (0 : Int), .string ByteArray.empty].toArray 37 (0, 0)) = w13 at hst14 ⊢
  obtain ⟨wq17, hxq17, hstq17⟩ := stq_run (P := Try.prog) (o := opAt (rops (sub [1, 1, 1, 1, 1, 1, 1, 1, 1, 1, 1, 0] f6_c)) 7) (ρ := Env.rho hs16.env) (off := 0) (vs := [.int .i64 r3.1.f0, .int .i64 r3.1.f1, .string r3.1.f2]) (by kernel_rfl) (by kernel_rfl) (Nat.le_of_ble_eq_true rfl) hst14 [.int .i64 r3.1.f0, .int .i64 r3.1.f1, .string r3.1.f2] rfl
  refine nd_op (op_s none hs16 (by kernel_rfl) hxq17 fun a18 hs19 => ?_)
  refine nd_q (c := 0) 1 [2, 3, 4, 5, 6, 15, 17, 25, 26] hs19 [(2, .int .i64 x2), (3, .int .i64 x3), (4, .string x4), (5, .int .i64 x5), (6, .int .u8 x6), (15, .pointer (some ⟨b_c'15b, 0, none⟩)), (17, .int .i64 n'17), (25, .pointer (some ⟨b12, 0, none⟩)), (26, .int .i64 r3.2.1)] (by kernel_rfl) fun a20 hs21 => ?_
  refine nd_done ?_
  refine to_seq (sub [1, 1, 1, 1, 1, 1, 1, 1, 1, 1, 1, 1, 0] f6_c) (sub [1, 1, 1, 1, 1, 1, 1, 1, 1, 1, 1, 1, 1] f6_c) (by kernel_rfl) ?_
  refine to_nd 25 9 (rops (sub [1, 1, 1, 1, 1, 1, 1, 1, 1, 1, 1, 1, 0] f6_c)) (by kernel_rfl) (by kernel_rfl) ?_
  refine nd_q (c := 7) 2 [2, 3, 4, 5, 6, 25, 26, 128, 129] hs21 [(2, .int .i64 x2), (3, .int .i64 x3), (4, .string x4), (5, .int .i64 x5), (6, .int .u8 x6), (25, .pointer (some ⟨b12, 0, none⟩)), (26, .int .i64 r3.2.1), (128, .pointer (some ⟨b_c'15b, 0, none⟩)), (129, .int .i64 n'17)] (by kernel_rfl) fun a22 hs23 => ?_
  have hst24 := W.St.front [_] hstq17
  refine nd_op (op_call (some 130) hs23 (by kernel_rfl) (by kernel_rfl) ((f25_ok hst24 hf3_i0 h_n'17 hr).mono ?_))
  rintro _ w26 ⟨r25, I25_i0, hst29, rfl, hf25_0_0, hf25_0_1, hf25_0_2, hf25_1_0, hf25_i0, hr⟩
  revert hr; intro hr
  refine ⟨_, rfl, fun a27 hs28 => ?_⟩
  refine nd_q (c := 3) 3 [2, 3, 4, 5, 6, 25, 26, 131, 132] hs28 [(2, .int .i64 x2), (3, .int .i64 x3), (4, .string x4), (5, .int .i64 x5), (6, .int .u8 x6), (25, .pointer (some ⟨b12, 0, none⟩)), (26, .int .i64 r3.2.1), (131, .agg #[.int .i64 r25.1.f0, .int .i64 r25.1.f1, .string r25.1.f2]), (132, .int .i64 r25.2.1)] (by kernel_rfl) fun a32 hs33 => ?_
  have hst36 := hst29.alloc (.cells [.int .i64 (0 : Int), .int .i64 (0 : Int), .string ByteArray.empty].toArray 37 (0, 0))
  refine nd_op (op_v (w' := w26.alloc (.cells [.int .i64 (0 : Int), .int .i64 (0 : Int), .string ByteArray.empty].toArray 37 (0, 0))) (some 27) (.pointer (some ⟨w26.heap.size, 0, none⟩)) hs33 (by kernel_rfl) (by kernel_rfl) fun a37 hs38 => ?_)
  generalize w26.heap.size = b34 at hst36 hs38
  generalize w26.alloc (.cells [.int .i64 (0 : Int), .int .i64 (0 : Int), .string ByteArray.empty].toArray 37 (0, 0)) = w35 at hst36 ⊢
  obtain ⟨wq39, hxq39, hstq39⟩ := stq_run (P := Try.prog) (o := opAt (rops (sub [1, 1, 1, 1, 1, 1, 1, 1, 1, 1, 1, 1, 0] f6_c)) 7) (ρ := Env.rho hs38.env) (off := 0) (vs := [.int .i64 r25.1.f0, .int .i64 r25.1.f1, .string r25.1.f2]) (by kernel_rfl) (by kernel_rfl) (Nat.le_of_ble_eq_true rfl) hst36 [.int .i64 r25.1.f0, .int .i64 r25.1.f1, .string r25.1.f2] rfl
  refine nd_op (op_s none hs38 (by kernel_rfl) hxq39 fun a40 hs41 => ?_)
  refine nd_q (c := 0) 1 [2, 3, 4, 5, 6, 25, 26, 27, 28] hs41 [(2, .int .i64 x2), (3, .int .i64 x3), (4, .string x4), (5, .int .i64 x5), (6, .int .u8 x6), (25, .pointer (some ⟨b12, 0, none⟩)), (26, .int .i64 r3.2.1), (27, .pointer (some ⟨b34, 0, none⟩)), (28, .int .i64 r25.2.1)] (by kernel_rfl) fun a42 hs43 => ?_
  refine nd_done ?_
  refine to_seq (sub [1, 1, 1, 1, 1, 1, 1, 1, 1, 1, 1, 1, 1, 0] f6_c) (sub [1, 1, 1, 1, 1, 1, 1, 1, 1, 1, 1, 1, 1, 1] f6_c) (by kernel_rfl) ?_
  refine to_seq (sub [1, 1, 1, 1, 1, 1, 1, 1, 1, 1, 1, 1, 1, 0, 0] f6_c) (sub [1, 1, 1, 1, 1, 1, 1, 1, 1, 1, 1, 1, 1, 0, 1] f6_c) (by kernel_rfl) ?_
  refine to_nd 26 34 (rops (sub [1, 1, 1, 1, 1, 1, 1, 1, 1, 1, 1, 1, 1, 0, 0] f6_c)) (by kernel_rfl) (by kernel_rfl) ?_
  refine nd_q (c := 31) 3 [2, 3, 4, 5, 6, 25, 27, 28, 135] hs43 [(2, .int .i64 x2), (3, .int .i64 x3), (4, .string x4), (5, .int .i64 x5), (6, .int .u8 x6), (25, .pointer (some ⟨b12, 0, none⟩)), (27, .pointer (some ⟨b34, 0, none⟩)), (28, .int .i64 r25.2.1), (135, .bool (r3.2.1 != (0 : Int)))] (by kernel_rfl) fun a44 hs45 => ?_
  by_cases hb46 : r3.2.1 = (0 : Int)
  rotate_left
  · rw [if_neg hb46] at hr
    rw [(neT hb46)] at hs45
    refine nd_q (c := 0) 31 [4, 5, 6, 27, 166] hs45 [(4, .string x4), (5, .int .i64 x5), (6, .int .u8 x6), (27, .pointer (some ⟨b34, 0, none⟩)), (166, .bool true)] (by kernel_rfl) fun a104 hs105 => ?_
    refine nd_done ?_
    have hst106 := W.St.drop [_] hstq39
    have hst107 := W.St.drop [_] hst106
    have hs108 := hs105.kept [4, 5, 6, 27, 166] [(4, .string x4), (5, .int .i64 x5), (6, .int .u8 x6), (27, .pointer (some ⟨b34, 0, none⟩)), (166, .bool true)] (by kernel_rfl)
    exact f6_j9_ok hbf hbk h_x0 h_x1 h_x2 h_x3 h_x4 h_x5 h_x6  hQ hr hm0 hst107 hs108 hf25_0_0 hf25_0_1 hf25_0_2
  rw [if_pos hb46] at hr
  rw [(neF hb46)] at hs45
  refine nd_q (c := 27) 4 [2, 3, 4, 5, 6, 25, 27, 139] hs45 [(2, .int .i64 x2), (3, .int .i64 x3), (4, .string x4), (5, .int .i64 x5), (6, .int .u8 x6), (25, .pointer (some ⟨b12, 0, none⟩)), (27, .pointer (some ⟨b34, 0, none⟩)), (139, .bool (r25.2.1 != (0 : Int)))] (by kernel_rfl) fun a47 hs48 => ?_
  by_cases hb49 : r25.2.1 = (0 : Int)
  rotate_left
  · rw [if_neg hb49] at hr
    rw [(neT hb49)] at hs48
    refine nd_q (c := 0) 27 [4, 5, 6, 27, 166] hs48 [(4, .string x4), (5, .int .i64 x5), (6, .int .u8 x6), (27, .pointer (some ⟨b34, 0, none⟩)), (166, .bool true)] (by kernel_rfl) fun a99 hs100 => ?_
    refine nd_done ?_
    have hst101 := W.St.drop [_] hstq39
    have hst102 := W.St.drop [_] hst101
    have hs103 := hs100.kept [4, 5, 6, 27, 166] [(4, .string x4), (5, .int .i64 x5), (6, .int .u8 x6), (27, .pointer (some ⟨b34, 0, none⟩)), (166, .bool true)] (by kernel_rfl)
    exact f6_j9_ok hbf hbk h_x0 h_x1 h_x2 h_x3 h_x4 h_x5 h_x6  hQ hr hm0 hst102 hs103 hf25_0_0 hf25_0_1 hf25_0_2
  rw [if_pos hb49] at hr
  rw [(neF hb49)] at hs48
  refine nd_v (i := 7) (c := 26) 140 (.agg #[.int .i64 r3.1.f0, .int .i64 r3.1.f1, .string r3.1.f2]) hs48 (by kernel_rfl) (ldN_run (P := Try.prog) (ad := ⟨b12, 0, none⟩) (l := [.int .i64 r3.1.f0, .int .i64 r3.1.f1, .string r3.1.f2]) 3 rfl (by kernel_rfl) (W.St.ocells [_, _] hstq39)) fun a50 hs51 => ?_
  refine nd_q (c := 22) 4 [2, 3, 4, 5, 6, 27, 139, 140, 144] hs51 [(2, .int .i64 x2), (3, .int .i64 x3), (4, .string x4), (5, .int .i64 x5), (6, .int .u8 x6), (27, .pointer (some ⟨b34, 0, none⟩)), (139, .bool false), (140, .agg #[.int .i64 r3.1.f0, .int .i64 r3.1.f1, .string r3.1.f2]), (144, .agg #[.int .i64 x2, .int .i64 x3, .string x4])] (by kernel_rfl) fun a52 hs53 => ?_
  refine nd_v (i := 12) (c := 21) 145 (.bool (!((r3.1.f0 == x2) && ((r3.1.f1 == x3) && ((r3.1.f2.toList == x4.toList) && true))))) hs53 (by kernel_rfl) (aeq_run (P := Try.prog) false ((r3.1.f0 == x2) && ((r3.1.f1 == x3) && ((r3.1.f2.toList == x4.toList) && true))) (by kernel_rfl)) fun a56 hs57 => ?_
  refine nd_q (c := 19) 2 [2, 3, 4, 5, 6, 27, 147] hs57 [(2, .int .i64 x2), (3, .int .i64 x3), (4, .string x4), (5, .int .i64 x5), (6, .int .u8 x6), (27, .pointer (some ⟨b34, 0, none⟩)), (147, .bool (!((r3.1.f0 == x2) && ((r3.1.f1 == x3) && ((r3.1.f2.toList == x4.toList) && true)))))] (by kernel_rfl) fun a58 hs59 => ?_
  by_cases hb60 : ((r3.1.f0 == x2) && ((r3.1.f1 == x3) && ((r3.1.f2.toList == x4.toList) && true))) = true
  rotate_left
  · rw [if_neg hb60] at hr
    rw [(bF hb60)] at hs59
    refine nd_q (c := 0) 19 [4, 5, 6, 27, 166] hs59 [(4, .string x4), (5, .int .i64 x5), (6, .int .u8 x6), (27, .pointer (some ⟨b34, 0, none⟩)), (166, .bool true)] (by kernel_rfl) fun a94 hs95 => ?_
    refine nd_done ?_
    have hst96 := W.St.drop [_] hstq39
    have hst97 := W.St.drop [_] hst96
    have hs98 := hs95.kept [4, 5, 6, 27, 166] [(4, .string x4), (5, .int .i64 x5), (6, .int .u8 x6), (27, .pointer (some ⟨b34, 0, none⟩)), (166, .bool true)] (by kernel_rfl)
    exact f6_j9_ok hbf hbk h_x0 h_x1 h_x2 h_x3 h_x4 h_x5 h_x6  hQ hr hm0 hst97 hs98 hf25_0_0 hf25_0_1 hf25_0_2
  rw [if_pos hb60] at hr
  rw [(bT hb60)] at hs59
  refine nd_q (c := 18) 1 [2, 3, 4, 5, 6, 27, 147, 148] hs59 [(2, .int .i64 x2), (3, .int .i64 x3), (4, .string x4), (5, .int .i64 x5), (6, .int .u8 x6), (27, .pointer (some ⟨b34, 0, none⟩)), (147, .bool (!true)), (148, .pointer (some ⟨b34, 0, none⟩))] (by kernel_rfl) fun a61 hs62 => ?_
  refine nd_v (i := 16) (c := 17) 149 (.int .i64 r25.1.f0) hs62 (by kernel_rfl) (ld1_run (P := Try.prog) (ad := ⟨b34, 0, none⟩) (by kernel_rfl) (W.St.ocell [] hstq39 0 (Nat.le_of_ble_eq_true rfl))) fun a63 hs64 => ?_
  refine nd_q (c := 13) 4 [3, 4, 5, 6, 27, 153] hs64 [(3, .int .i64 x3), (4, .string x4), (5, .int .i64 x5), (6, .int .u8 x6), (27, .pointer (some ⟨b34, 0, none⟩)), (153, .bool (r25.1.f0 != x2))] (by kernel_rfl) fun a65 hs66 => ?_
  by_cases hb67 : r25.1.f0 = x2
  rotate_left
  · rw [if_neg hb67] at hr
    rw [(neT hb67)] at hs66
    refine nd_q (c := 0) 13 [4, 5, 6, 27, 166] hs66 [(4, .string x4), (5, .int .i64 x5), (6, .int .u8 x6), (27, .pointer (some ⟨b34, 0, none⟩)), (166, .bool true)] (by kernel_rfl) fun a89 hs90 => ?_
    refine nd_done ?_
    have hst91 := W.St.drop [_] hstq39
    have hst92 := W.St.drop [_] hst91
    have hs93 := hs90.kept [4, 5, 6, 27, 166] [(4, .string x4), (5, .int .i64 x5), (6, .int .u8 x6), (27, .pointer (some ⟨b34, 0, none⟩)), (166, .bool true)] (by kernel_rfl)
    exact f6_j9_ok hbf hbk h_x0 h_x1 h_x2 h_x3 h_x4 h_x5 h_x6  hQ hr hm0 hst92 hs93 hf25_0_0 hf25_0_1 hf25_0_2
  rw [if_pos hb67] at hr
  rw [(neF hb67)] at hs66
  refine nd_q (c := 12) 1 [3, 4, 5, 6, 27, 153, 154] hs66 [(3, .int .i64 x3), (4, .string x4), (5, .int .i64 x5), (6, .int .u8 x6), (27, .pointer (some ⟨b34, 0, none⟩)), (153, .bool false), (154, .pointer (some ⟨b34, 1, none⟩))] (by kernel_rfl) fun a68 hs69 => ?_
  refine nd_v (i := 22) (c := 11) 155 (.int .i64 r25.1.f1) hs69 (by kernel_rfl) (ld1_run (P := Try.prog) (ad := ⟨b34, 1, none⟩) (by kernel_rfl) (W.St.ocell [] hstq39 1 (Nat.le_of_ble_eq_true rfl))) fun a70 hs71 => ?_
  refine nd_q (c := 7) 4 [4, 5, 6, 27, 159] hs71 [(4, .string x4), (5, .int .i64 x5), (6, .int .u8 x6), (27, .pointer (some ⟨b34, 0, none⟩)), (159, .bool (r25.1.f1 != x3))] (by kernel_rfl) fun a72 hs73 => ?_
  by_cases hb74 : r25.1.f1 = x3
  rotate_left
  · rw [if_neg hb74] at hr
    rw [(neT hb74)] at hs73
    refine nd_q (c := 0) 7 [4, 5, 6, 27, 166] hs73 [(4, .string x4), (5, .int .i64 x5), (6, .int .u8 x6), (27, .pointer (some ⟨b34, 0, none⟩)), (166, .bool true)] (by kernel_rfl) fun a84 hs85 => ?_
    refine nd_done ?_
    have hst86 := W.St.drop [_] hstq39
    have hst87 := W.St.drop [_] hst86
    have hs88 := hs85.kept [4, 5, 6, 27, 166] [(4, .string x4), (5, .int .i64 x5), (6, .int .u8 x6), (27, .pointer (some ⟨b34, 0, none⟩)), (166, .bool true)] (by kernel_rfl)
    exact f6_j9_ok hbf hbk h_x0 h_x1 h_x2 h_x3 h_x4 h_x5 h_x6  hQ hr hm0 hst87 hs88 hf25_0_0 hf25_0_1 hf25_0_2
  rw [if_pos hb74] at hr
  rw [(neF hb74)] at hs73
  refine nd_q (c := 6) 1 [4, 5, 6, 27, 159, 160] hs73 [(4, .string x4), (5, .int .i64 x5), (6, .int .u8 x6), (27, .pointer (some ⟨b34, 0, none⟩)), (159, .bool false), (160, .pointer (some ⟨b34, 2, none⟩))] (by kernel_rfl) fun a75 hs76 => ?_
  refine nd_v (i := 28) (c := 5) 161 (.string r25.1.f2) hs76 (by kernel_rfl) (ld1_run (P := Try.prog) (ad := ⟨b34, 2, none⟩) (by kernel_rfl) (W.St.ocell [] hstq39 2 (Nat.le_of_ble_eq_true rfl))) fun a77 hs78 => ?_
  refine nd_q (c := 0) 5 [4, 5, 6, 27, 166] hs78 [(4, .string x4), (5, .int .i64 x5), (6, .int .u8 x6), (27, .pointer (some ⟨b34, 0, none⟩)), (166, .bool ((r25.1.f2.size : Int) != (x4.size : Int)))] (by kernel_rfl) fun a79 hs80 => ?_
  refine nd_done ?_
  have hst81 := W.St.drop [_] hstq39
  have hst82 := W.St.drop [_] hst81
  have hs83 := hs80.kept [4, 5, 6, 27, 166] [(4, .string x4), (5, .int .i64 x5), (6, .int .u8 x6), (27, .pointer (some ⟨b34, 0, none⟩)), (166, .bool ((r25.1.f2.size : Int) != (x4.size : Int)))] (by kernel_rfl)
  exact f6_j9_ok hbf hbk h_x0 h_x1 h_x2 h_x3 h_x4 h_x5 h_x6  hQ hr hm0 hst82 hs83 hf25_0_0 hf25_0_1 hf25_0_2
def f6_j5_Y (z : Base) (m0 : Mem) (G : List Grp) (b : Frame) (cs : List Frame) (R : Ending → World → Prop) (a_x1 : Option Addr) (c_x1 : Nat) (x0 : Int) (x1 : (List S40)) (x2 : Int) (x3 : Int) (x4 : ByteArray) (x5 : Int) (x6 : Int) (c'15b : S62) (n'17 : Int) (k'21 : Int) (t'111 : Bool) : Prop := ∀ {m : Mem} {w : World} {a : Act} {b_c'15b : Nat} {I_c'15b : Grp}, m0.le m → W.St z w m (I_c'15b :: G) → Has 199 a [(0, .int .i64 x0), (2, .int .i64 x2), (3, .int .i64 x3), (4, .string x4), (5, .int .i64 x5), (6, .int .u8 x6), (15, .pointer (some ⟨b_c'15b, 0, none⟩)), (17, .int .i64 n'17), (21, .int .i64 k'21), (111, .bool t'111)] → (OwnS62 m b_c'15b I_c'15b c'15b) → (InR .i64 n'17) → (InR .i64 k'21) → Reach Try.prog b cs R [.code (sub [1, 1, 1, 1, 1, 1, 1, 1, 1, 0, 1] f6_c), .code (sub [1, 1, 1, 1, 1, 1, 1, 1, 1, 1] f6_c)] a w
def f6_j5 (x0 : Int) (x1 : (List S40)) (x2 : Int) (x3 : Int) (x4 : ByteArray) (x5 : Int) (x6 : Int) (Q : Bool → Prop) (c'15b : S62) (n'17 : Int) (k'21 : Int) (t'111 : Bool) : Prop := if t'111 = true then (Q false) else (f6_l6 x0 x2 x3 x4 x5 x6 n'17 k'21 (fun c'15be8 => f6_j8 x0 x1 x2 x3 x4 x5 x6 Q c'15be8 n'17 k'21) Q c'15b (1 : Int))
theorem f6_j5_ok {z : Base} {m0 : Mem} {G : List Grp} {b : Frame} {cs : List Frame} {R : Ending → World → Prop} {a_x1 : Option Addr} {c_x1 : Nat} {x0 : Int} {x1 : (List S40)} {x2 : Int} {x3 : Int} {x4 : ByteArray} {x5 : Int} {x6 : Int} {Q : Bool → Prop} (hbf : b.fn = 6) (hbk : b.kind = .normal) (h_x0 : InR .i64 x0) (h_x1 : Sl k40 48 m0 a_x1 c_x1 x1) (h_x2 : InR .i64 x2) (h_x3 : InR .i64 x3) (h_x4 : x4.size ≤ reach) (h_x5 : InR .i64 x5) (h_x6 : InR .u8 x6)  (hQ : ∀ {r : Bool}, Q r → f6_YR z m0 G R  r) : ∀ {c'15b : S62} {n'17 : Int} {k'21 : Int} {t'111 : Bool}, f6_j5 x0 x1 x2 x3 x4 x5 x6 Q c'15b n'17 k'21 t'111 → f6_j5_Y z m0 G b cs R a_x1 c_x1 x0 x1 x2 x3 x4 x5 x6 c'15b n'17 k'21 t'111 := by
  intro c'15b n'17 k'21 t'111 hr m w a0 b_c'15b I_c'15b hm0 hst hs0 h_c'15b h_n'17 h_k'21
  unfold f6_j5 at hr
  by_cases hb1 : t'111 = true
  · rw [if_pos hb1] at hr
    rw [(bT hb1)] at hs0
    refine to_then (.tmp 111) (sub [1, 1, 1, 1, 1, 1, 1, 1, 1, 0, 1, 0] f6_c) (sub [1, 1, 1, 1, 1, 1, 1, 1, 1, 0, 1, 1] f6_c) (by kernel_rfl) hs0 (by kernel_rfl) ?_
    refine to_seq (sub [1, 1, 1, 1, 1, 1, 1, 1, 1, 0, 1, 0, 0] f6_c) (sub [1, 1, 1, 1, 1, 1, 1, 1, 1, 0, 1, 0, 1] f6_c) (by kernel_rfl) ?_
    refine to_nd 18 1 (rops (sub [1, 1, 1, 1, 1, 1, 1, 1, 1, 0, 1, 0, 0] f6_c)) (by kernel_rfl) (by kernel_rfl) ?_
    refine nd_q (c := 0) 1 [14] hs0 [(14, .bool false)] (by kernel_rfl) fun a2 hs3 => ?_
    refine nd_done ?_
    have hst4 := W.St.drop [] hst
    exact to_ret (v := .bool false) (by kernel_rfl) hbf Try.func6 hbk hs3 (by kernel_rfl) (hQ hr hm0 hst4 )
  rw [if_neg hb1] at hr
  rw [(bF hb1)] at hs0
  refine to_else (.tmp 111) (sub [1, 1, 1, 1, 1, 1, 1, 1, 1, 0, 1, 0] f6_c) (sub [1, 1, 1, 1, 1, 1, 1, 1, 1, 0, 1, 1] f6_c) (by kernel_rfl) hs0 (by kernel_rfl) ?_
  refine to_skip (by kernel_rfl) ?_
  refine to_seq (sub [1, 1, 1, 1, 1, 1, 1, 1, 1, 1, 0] f6_c) (sub [1, 1, 1, 1, 1, 1, 1, 1, 1, 1, 1] f6_c) (by kernel_rfl) ?_
  refine to_seq (sub [1, 1, 1, 1, 1, 1, 1, 1, 1, 1, 0, 0] f6_c) (sub [1, 1, 1, 1, 1, 1, 1, 1, 1, 1, 0, 1] f6_c) (by kernel_rfl) ?_
  refine to_nd 19 1 (rops (sub [1, 1, 1, 1, 1, 1, 1, 1, 1, 1, 0, 0] f6_c)) (by kernel_rfl) (by kernel_rfl) ?_
  refine nd_q (c := 0) 1 [0, 2, 3, 4, 5, 6, 15, 17, 21, 24] hs0 [(0, .int .i64 x0), (2, .int .i64 x2), (3, .int .i64 x3), (4, .string x4), (5, .int .i64 x5), (6, .int .u8 x6), (15, .pointer (some ⟨b_c'15b, 0, none⟩)), (17, .int .i64 n'17), (21, .int .i64 k'21), (24, .int .i64 (1 : Int))] (by kernel_rfl) fun a5 hs6 => ?_
  refine nd_done ?_
  refine to_block 2 (sub [1, 1, 1, 1, 1, 1, 1, 1, 1, 1, 0, 1, 0] f6_c) (by kernel_rfl) ?_
  refine to_loop (sub [1, 1, 1, 1, 1, 1, 1, 1, 1, 1, 0, 1, 0, 0] f6_c) (by kernel_rfl) ?_
  have hs7 := hs6.kept [0, 2, 3, 4, 5, 6, 15, 17, 21, 24] [(0, .int .i64 x0), (2, .int .i64 x2), (3, .int .i64 x3), (4, .string x4), (5, .int .i64 x5), (6, .int .u8 x6), (15, .pointer (some ⟨b_c'15b, 0, none⟩)), (17, .int .i64 n'17), (21, .int .i64 k'21), (24, .int .i64 (1 : Int))] (by kernel_rfl)
  refine f6_l6_ok hbf hbk h_x0 h_x2 h_x3 h_x4 h_x5 h_x6 h_n'17 h_k'21  ?_ (fun hq => f6_YR_mono hm0 (hQ hq)) hr (Mem.le.refl _) hst hs7 h_c'15b (inr_of (by kernel_rfl))
  intro c'15be8 hr
  intro m9 w11 a13 b_c'15be8 I_c'15be8 hm10 hst12 hs14 h_c'15be8
  have hs15 := hs14.kept [2, 3, 4, 5, 6, 15, 17, 21] [(2, .int .i64 x2), (3, .int .i64 x3), (4, .string x4), (5, .int .i64 x5), (6, .int .u8 x6), (15, .pointer (some ⟨b_c'15be8, 0, none⟩)), (17, .int .i64 n'17), (21, .int .i64 k'21)] (by kernel_rfl)
  exact f6_j8_ok hbf hbk h_x0 h_x1 h_x2 h_x3 h_x4 h_x5 h_x6  hQ hr (hm0.trans hm10) hst12 hs15 h_c'15be8 h_n'17 h_k'21
def f6_j1_Y (z : Base) (m0 : Mem) (G : List Grp) (b : Frame) (cs : List Frame) (R : Ending → World → Prop) (a_x1 : Option Addr) (c_x1 : Nat) (x0 : Int) (x1 : (List S40)) (x2 : Int) (x3 : Int) (x4 : ByteArray) (x5 : Int) (x6 : Int) (c'15 : (Option S62)) (t'48 : Bool) : Prop := ∀ {m : Mem} {w : World} {a : Act} {p_c'15 : Option Addr} {I_c'15 : Grp}, m0.le m → W.St z w m (I_c'15 :: G) → Has 199 a [(0, .int .i64 x0), (1, .slice a_x1 x1.length c_x1), (2, .int .i64 x2), (3, .int .i64 x3), (4, .string x4), (5, .int .i64 x5), (6, .int .u8 x6), (15, .pointer p_c'15), (48, .bool t'48)] → (OwnN62 m p_c'15 I_c'15 c'15) → Reach Try.prog b cs R [.code (sub [1, 1, 1, 0, 1] f6_c), .code (sub [1, 1, 1, 1] f6_c)] a w
def f6_j1 (x0 : Int) (x1 : (List S40)) (x2 : Int) (x3 : Int) (x4 : ByteArray) (x5 : Int) (x6 : Int) (Q : Bool → Prop) (c'15 : (Option S62)) (t'48 : Bool) : Prop := if t'48 = true then (Q true) else (onPtr c'15 False (fun y7 => f21 y7 x2 x3 x4 fun r11 => if r11.2.1 = (0 : Int) then (f6_l2 x0 x1 x2 x3 x4 x5 x6 r11.1 (fun c'15be26 => f22 c'15be26 r11.1 fun r35 => f23 r35.2.2 r11.1 x5 x6 fun r46 => if r35.2.1 = (0 : Int) then (if x5 ≥ (0 : Int) then (f6_j5 x0 x1 x2 x3 x4 x5 x6 Q r46.2 r11.1 r35.1 (!((r46.1 == (0 : Int)) == (decide (x5 < (x4.size : Int)))))) else (f6_j5 x0 x1 x2 x3 x4 x5 x6 Q r46.2 r11.1 r35.1 (!((r46.1 == (0 : Int)) == false)))) else (f6_j5 x0 x1 x2 x3 x4 x5 x6 Q r46.2 r11.1 r35.1 true)) r11.2.2 (0 : Int)) else (Q true)))
theorem f6_j1_ok {z : Base} {m0 : Mem} {G : List Grp} {b : Frame} {cs : List Frame} {R : Ending → World → Prop} {a_x1 : Option Addr} {c_x1 : Nat} {x0 : Int} {x1 : (List S40)} {x2 : Int} {x3 : Int} {x4 : ByteArray} {x5 : Int} {x6 : Int} {Q : Bool → Prop} (hbf : b.fn = 6) (hbk : b.kind = .normal) (h_x0 : InR .i64 x0) (h_x1 : Sl k40 48 m0 a_x1 c_x1 x1) (h_x2 : InR .i64 x2) (h_x3 : InR .i64 x3) (h_x4 : x4.size ≤ reach) (h_x5 : InR .i64 x5) (h_x6 : InR .u8 x6)  (hQ : ∀ {r : Bool}, Q r → f6_YR z m0 G R  r) : ∀ {c'15 : (Option S62)} {t'48 : Bool}, f6_j1 x0 x1 x2 x3 x4 x5 x6 Q c'15 t'48 → f6_j1_Y z m0 G b cs R a_x1 c_x1 x0 x1 x2 x3 x4 x5 x6 c'15 t'48 := by
  intro c'15 t'48 hr m w a0 p_c'15 I_c'15 hm0 hst hs0 h_c'15
  unfold f6_j1 at hr
  by_cases hb1 : t'48 = true
  · rw [if_pos hb1] at hr
    rw [(bT hb1)] at hs0
    refine to_then (.tmp 48) (sub [1, 1, 1, 0, 1, 0] f6_c) (sub [1, 1, 1, 0, 1, 1] f6_c) (by kernel_rfl) hs0 (by kernel_rfl) ?_
    refine to_seq (sub [1, 1, 1, 0, 1, 0, 0] f6_c) (sub [1, 1, 1, 0, 1, 0, 1] f6_c) (by kernel_rfl) ?_
    refine to_nd 5 1 (rops (sub [1, 1, 1, 0, 1, 0, 0] f6_c)) (by kernel_rfl) (by kernel_rfl) ?_
    refine nd_q (c := 0) 1 [14] hs0 [(14, .bool true)] (by kernel_rfl) fun a2 hs3 => ?_
    refine nd_done ?_
    have hst4 := W.St.drop [] hst
    exact to_ret (v := .bool true) (by kernel_rfl) hbf Try.func6 hbk hs3 (by kernel_rfl) (hQ hr hm0 hst4 )
  rw [if_neg hb1] at hr
  rw [(bF hb1)] at hs0
  refine to_else (.tmp 48) (sub [1, 1, 1, 0, 1, 0] f6_c) (sub [1, 1, 1, 0, 1, 1] f6_c) (by kernel_rfl) hs0 (by kernel_rfl) ?_
  refine to_skip (by kernel_rfl) ?_
  refine to_seq (sub [1, 1, 1, 1, 0] f6_c) (sub [1, 1, 1, 1, 1] f6_c) (by kernel_rfl) ?_
  refine to_nd 6 10 (rops (sub [1, 1, 1, 1, 0] f6_c)) (by kernel_rfl) (by kernel_rfl) ?_
  refine nd_q (c := 6) 4 [0, 1, 2, 3, 4, 5, 6, 15, 50, 51, 52, 53] hs0 [(0, .int .i64 x0), (1, .slice a_x1 x1.length c_x1), (2, .int .i64 x2), (3, .int .i64 x3), (4, .string x4), (5, .int .i64 x5), (6, .int .u8 x6), (15, .pointer p_c'15), (50, .pointer p_c'15), (51, .int .i64 x2), (52, .int .i64 x3), (53, .string x4)] (by kernel_rfl) fun a5 hs6 => ?_
  obtain ⟨hx8, _⟩ | ⟨b9, y7, hx8, rfl, ho10⟩ := h_c'15
  · exact (onPtr_none hx8 hr).elim
  replace hr := onPtr_some hx8 hr
  refine nd_op (op_call (some 54) hs6 (by kernel_rfl) (by kernel_rfl) ((f21_ok hst ho10 h_x2 h_x3 h_x4 hr).mono ?_))
  rintro _ w12 ⟨r11, I11_i0, hst15, rfl, hf11_0_0, hf11_1_0, hf11_i0, hr⟩
  revert hr; intro hr
  refine ⟨_, rfl, fun a13 hs14 => ?_⟩
  refine nd_q (c := 0) 5 [0, 1, 2, 3, 4, 5, 6, 15, 17, 18] hs14 [(0, .int .i64 x0), (1, .slice a_x1 x1.length c_x1), (2, .int .i64 x2), (3, .int .i64 x3), (4, .string x4), (5, .int .i64 x5), (6, .int .u8 x6), (15, .pointer (some ⟨b9, 0, none⟩)), (17, .int .i64 r11.1), (18, .int .i64 r11.2.1)] (by kernel_rfl) fun a18 hs19 => ?_
  refine nd_done ?_
  refine to_seq (sub [1, 1, 1, 1, 1, 0] f6_c) (sub [1, 1, 1, 1, 1, 1] f6_c) (by kernel_rfl) ?_
  refine to_seq (sub [1, 1, 1, 1, 1, 0, 0] f6_c) (sub [1, 1, 1, 1, 1, 0, 1] f6_c) (by kernel_rfl) ?_
  refine to_nd 7 2 (rops (sub [1, 1, 1, 1, 1, 0, 0] f6_c)) (by kernel_rfl) (by kernel_rfl) ?_
  refine nd_q (c := 0) 2 [0, 1, 2, 3, 4, 5, 6, 15, 17, 58] hs19 [(0, .int .i64 x0), (1, .slice a_x1 x1.length c_x1), (2, .int .i64 x2), (3, .int .i64 x3), (4, .string x4), (5, .int .i64 x5), (6, .int .u8 x6), (15, .pointer (some ⟨b9, 0, none⟩)), (17, .int .i64 r11.1), (58, .bool (r11.2.1 != (0 : Int)))] (by kernel_rfl) fun a20 hs21 => ?_
  refine nd_done ?_
  by_cases hb22 : r11.2.1 = (0 : Int)
  rotate_left
  · rw [if_neg hb22] at hr
    rw [(neT hb22)] at hs21
    refine to_then (.tmp 58) (sub [1, 1, 1, 1, 1, 0, 1, 0] f6_c) (sub [1, 1, 1, 1, 1, 0, 1, 1] f6_c) (by kernel_rfl) hs21 (by kernel_rfl) ?_
    refine to_seq (sub [1, 1, 1, 1, 1, 0, 1, 0, 0] f6_c) (sub [1, 1, 1, 1, 1, 0, 1, 0, 1] f6_c) (by kernel_rfl) ?_
    refine to_nd 8 1 (rops (sub [1, 1, 1, 1, 1, 0, 1, 0, 0] f6_c)) (by kernel_rfl) (by kernel_rfl) ?_
    refine nd_q (c := 0) 1 [14] hs21 [(14, .bool true)] (by kernel_rfl) fun a70 hs71 => ?_
    refine nd_done ?_
    have hst72 := W.St.drop [] hst15
    exact to_ret (v := .bool true) (by kernel_rfl) hbf Try.func6 hbk hs71 (by kernel_rfl) (hQ hr hm0 hst72 )
  rw [if_pos hb22] at hr
  rw [(neF hb22)] at hs21
  refine to_else (.tmp 58) (sub [1, 1, 1, 1, 1, 0, 1, 0] f6_c) (sub [1, 1, 1, 1, 1, 0, 1, 1] f6_c) (by kernel_rfl) hs21 (by kernel_rfl) ?_
  refine to_skip (by kernel_rfl) ?_
  refine to_seq (sub [1, 1, 1, 1, 1, 1, 0] f6_c) (sub [1, 1, 1, 1, 1, 1, 1] f6_c) (by kernel_rfl) ?_
  refine to_seq (sub [1, 1, 1, 1, 1, 1, 0, 0] f6_c) (sub [1, 1, 1, 1, 1, 1, 0, 1] f6_c) (by kernel_rfl) ?_
  refine to_nd 9 1 (rops (sub [1, 1, 1, 1, 1, 1, 0, 0] f6_c)) (by kernel_rfl) (by kernel_rfl) ?_
  refine nd_q (c := 0) 1 [0, 1, 2, 3, 4, 5, 6, 15, 17, 19] hs21 [(0, .int .i64 x0), (1, .slice a_x1 x1.length c_x1), (2, .int .i64 x2), (3, .int .i64 x3), (4, .string x4), (5, .int .i64 x5), (6, .int .u8 x6), (15, .pointer (some ⟨b9, 0, none⟩)), (17, .int .i64 r11.1), (19, .int .i64 (0 : Int))] (by kernel_rfl) fun a23 hs24 => ?_
  refine nd_done ?_
  refine to_block 0 (sub [1, 1, 1, 1, 1, 1, 0, 1, 0] f6_c) (by kernel_rfl) ?_
  refine to_loop (sub [1, 1, 1, 1, 1, 1, 0, 1, 0, 0] f6_c) (by kernel_rfl) ?_
  have hs25 := hs24.kept [0, 1, 2, 3, 4, 5, 6, 15, 17, 19] [(0, .int .i64 x0), (1, .slice a_x1 x1.length c_x1), (2, .int .i64 x2), (3, .int .i64 x3), (4, .string x4), (5, .int .i64 x5), (6, .int .u8 x6), (15, .pointer (some ⟨b9, 0, none⟩)), (17, .int .i64 r11.1), (19, .int .i64 (0 : Int))] (by kernel_rfl)
  refine f6_l2_ok hbf hbk h_x0 (h_x1.mono hm0) h_x2 h_x3 h_x4 h_x5 h_x6 hf11_0_0  ?_ hr (Mem.le.refl _) hst15 hs25 hf11_i0 (inr_of (by kernel_rfl))
  intro c'15be26 hr
  intro m27 w29 a31 b_c'15be26 I_c'15be26 hm28 hst30 hs32 h_c'15be26
  refine to_seq (sub [1, 1, 1, 1, 1, 1, 1, 0] f6_c) (sub [1, 1, 1, 1, 1, 1, 1, 1] f6_c) (by kernel_rfl) ?_
  refine to_nd 15 8 (rops (sub [1, 1, 1, 1, 1, 1, 1, 0] f6_c)) (by kernel_rfl) (by kernel_rfl) ?_
  refine nd_q (c := 6) 2 [0, 2, 3, 4, 5, 6, 15, 17, 87, 88] hs32 [(0, .int .i64 x0), (2, .int .i64 x2), (3, .int .i64 x3), (4, .string x4), (5, .int .i64 x5), (6, .int .u8 x6), (15, .pointer (some ⟨b_c'15be26, 0, none⟩)), (17, .int .i64 r11.1), (87, .pointer (some ⟨b_c'15be26, 0, none⟩)), (88, .int .i64 r11.1)] (by kernel_rfl) fun a33 hs34 => ?_
  refine nd_op (op_call (some 89) hs34 (by kernel_rfl) (by kernel_rfl) ((f22_ok hst30 h_c'15be26 hf11_0_0 hr).mono ?_))
  rintro _ w36 ⟨r35, I35_i0, hst39, rfl, hf35_0_0, hf35_1_0, hf35_i0, hr⟩
  revert hr; intro hr
  refine ⟨_, rfl, fun a37 hs38 => ?_⟩
  refine nd_q (c := 0) 5 [0, 2, 3, 4, 5, 6, 15, 17, 21, 22] hs38 [(0, .int .i64 x0), (2, .int .i64 x2), (3, .int .i64 x3), (4, .string x4), (5, .int .i64 x5), (6, .int .u8 x6), (15, .pointer (some ⟨b_c'15be26, 0, none⟩)), (17, .int .i64 r11.1), (21, .int .i64 r35.1), (22, .int .i64 r35.2.1)] (by kernel_rfl) fun a42 hs43 => ?_
  refine nd_done ?_
  refine to_seq (sub [1, 1, 1, 1, 1, 1, 1, 1, 0] f6_c) (sub [1, 1, 1, 1, 1, 1, 1, 1, 1] f6_c) (by kernel_rfl) ?_
  refine to_nd 16 6 (rops (sub [1, 1, 1, 1, 1, 1, 1, 1, 0] f6_c)) (by kernel_rfl) (by kernel_rfl) ?_
  refine nd_q (c := 2) 4 [0, 2, 3, 4, 5, 6, 15, 17, 21, 22, 92, 93, 94, 95] hs43 [(0, .int .i64 x0), (2, .int .i64 x2), (3, .int .i64 x3), (4, .string x4), (5, .int .i64 x5), (6, .int .u8 x6), (15, .pointer (some ⟨b_c'15be26, 0, none⟩)), (17, .int .i64 r11.1), (21, .int .i64 r35.1), (22, .int .i64 r35.2.1), (92, .pointer (some ⟨b_c'15be26, 0, none⟩)), (93, .int .i64 r11.1), (94, .int .i64 x5), (95, .int .u8 x6)] (by kernel_rfl) fun a44 hs45 => ?_
  refine nd_op (op_call (some 96) hs45 (by kernel_rfl) (by kernel_rfl) ((f23_ok hst39 hf35_i0 hf11_0_0 h_x5 h_x6 hr).mono ?_))
  rintro _ w47 ⟨r46, I46_i0, hst50, rfl, hf46_0_0, hf46_i0, hr⟩
  revert hr; intro hr
  refine ⟨_, rfl, fun a48 hs49 => ?_⟩
  refine nd_q (c := 0) 1 [0, 2, 3, 4, 5, 6, 15, 17, 21, 22, 23] hs49 [(0, .int .i64 x0), (2, .int .i64 x2), (3, .int .i64 x3), (4, .string x4), (5, .int .i64 x5), (6, .int .u8 x6), (15, .pointer (some ⟨b_c'15be26, 0, none⟩)), (17, .int .i64 r11.1), (21, .int .i64 r35.1), (22, .int .i64 r35.2.1), (23, .int .i64 r46.1)] (by kernel_rfl) fun a53 hs54 => ?_
  refine nd_done ?_
  refine to_seq (sub [1, 1, 1, 1, 1, 1, 1, 1, 1, 0] f6_c) (sub [1, 1, 1, 1, 1, 1, 1, 1, 1, 1] f6_c) (by kernel_rfl) ?_
  refine to_seq (sub [1, 1, 1, 1, 1, 1, 1, 1, 1, 0, 0] f6_c) (sub [1, 1, 1, 1, 1, 1, 1, 1, 1, 0, 1] f6_c) (by kernel_rfl) ?_
  refine to_nd 17 15 (rops (sub [1, 1, 1, 1, 1, 1, 1, 1, 1, 0, 0] f6_c)) (by kernel_rfl) (by kernel_rfl) ?_
  refine nd_q (c := 12) 3 [0, 2, 3, 4, 5, 6, 15, 17, 21, 23, 99] hs54 [(0, .int .i64 x0), (2, .int .i64 x2), (3, .int .i64 x3), (4, .string x4), (5, .int .i64 x5), (6, .int .u8 x6), (15, .pointer (some ⟨b_c'15be26, 0, none⟩)), (17, .int .i64 r11.1), (21, .int .i64 r35.1), (23, .int .i64 r46.1), (99, .bool (r35.2.1 != (0 : Int)))] (by kernel_rfl) fun a55 hs56 => ?_
  by_cases hb57 : r35.2.1 = (0 : Int)
  rotate_left
  · rw [if_neg hb57] at hr
    rw [(neT hb57)] at hs56
    refine nd_q (c := 0) 12 [0, 2, 3, 4, 5, 6, 15, 17, 21, 111] hs56 [(0, .int .i64 x0), (2, .int .i64 x2), (3, .int .i64 x3), (4, .string x4), (5, .int .i64 x5), (6, .int .u8 x6), (15, .pointer (some ⟨b_c'15be26, 0, none⟩)), (17, .int .i64 r11.1), (21, .int .i64 r35.1), (111, .bool true)] (by kernel_rfl) fun a67 hs68 => ?_
    refine nd_done ?_
    have hs69 := hs68.kept [0, 2, 3, 4, 5, 6, 15, 17, 21, 111] [(0, .int .i64 x0), (2, .int .i64 x2), (3, .int .i64 x3), (4, .string x4), (5, .int .i64 x5), (6, .int .u8 x6), (15, .pointer (some ⟨b_c'15be26, 0, none⟩)), (17, .int .i64 r11.1), (21, .int .i64 r35.1), (111, .bool true)] (by kernel_rfl)
    exact f6_j5_ok hbf hbk h_x0 h_x1 h_x2 h_x3 h_x4 h_x5 h_x6  hQ hr (hm0.trans hm28) hst50 hs69 hf46_i0 hf11_0_0 hf35_0_0
  rw [if_pos hb57] at hr
  rw [(neF hb57)] at hs56
  refine nd_q (c := 7) 5 [0, 2, 3, 4, 5, 6, 15, 17, 21, 99, 101, 104] hs56 [(0, .int .i64 x0), (2, .int .i64 x2), (3, .int .i64 x3), (4, .string x4), (5, .int .i64 x5), (6, .int .u8 x6), (15, .pointer (some ⟨b_c'15be26, 0, none⟩)), (17, .int .i64 r11.1), (21, .int .i64 r35.1), (99, .bool false), (101, .bool (r46.1 == (0 : Int))), (104, .bool (decide (x5 ≥ (0 : Int))))] (by kernel_rfl) fun a58 hs59 => ?_
  by_cases hb60 : x5 ≥ (0 : Int)
  · rw [if_pos hb60] at hr
    rw [(decide_eq_true hb60)] at hs59
    refine nd_q (c := 0) 7 [0, 2, 3, 4, 5, 6, 15, 17, 21, 111] hs59 [(0, .int .i64 x0), (2, .int .i64 x2), (3, .int .i64 x3), (4, .string x4), (5, .int .i64 x5), (6, .int .u8 x6), (15, .pointer (some ⟨b_c'15be26, 0, none⟩)), (17, .int .i64 r11.1), (21, .int .i64 r35.1), (111, .bool (!((r46.1 == (0 : Int)) == (decide (x5 < (x4.size : Int))))))] (by kernel_rfl) fun a61 hs62 => ?_
    refine nd_done ?_
    have hs63 := hs62.kept [0, 2, 3, 4, 5, 6, 15, 17, 21, 111] [(0, .int .i64 x0), (2, .int .i64 x2), (3, .int .i64 x3), (4, .string x4), (5, .int .i64 x5), (6, .int .u8 x6), (15, .pointer (some ⟨b_c'15be26, 0, none⟩)), (17, .int .i64 r11.1), (21, .int .i64 r35.1), (111, .bool (!((r46.1 == (0 : Int)) == (decide (x5 < (x4.size : Int))))))] (by kernel_rfl)
    exact f6_j5_ok hbf hbk h_x0 h_x1 h_x2 h_x3 h_x4 h_x5 h_x6  hQ hr (hm0.trans hm28) hst50 hs63 hf46_i0 hf11_0_0 hf35_0_0
  rw [if_neg hb60] at hr
  rw [(decide_eq_false hb60)] at hs59
  refine nd_q (c := 0) 7 [0, 2, 3, 4, 5, 6, 15, 17, 21, 111] hs59 [(0, .int .i64 x0), (2, .int .i64 x2), (3, .int .i64 x3), (4, .string x4), (5, .int .i64 x5), (6, .int .u8 x6), (15, .pointer (some ⟨b_c'15be26, 0, none⟩)), (17, .int .i64 r11.1), (21, .int .i64 r35.1), (111, .bool (!((r46.1 == (0 : Int)) == false)))] (by kernel_rfl) fun a64 hs65 => ?_
  refine nd_done ?_
  have hs66 := hs65.kept [0, 2, 3, 4, 5, 6, 15, 17, 21, 111] [(0, .int .i64 x0), (2, .int .i64 x2), (3, .int .i64 x3), (4, .string x4), (5, .int .i64 x5), (6, .int .u8 x6), (15, .pointer (some ⟨b_c'15be26, 0, none⟩)), (17, .int .i64 r11.1), (21, .int .i64 r35.1), (111, .bool (!((r46.1 == (0 : Int)) == false)))] (by kernel_rfl)
  exact f6_j5_ok hbf hbk h_x0 h_x1 h_x2 h_x3 h_x4 h_x5 h_x6  hQ hr (hm0.trans hm28) hst50 hs66 hf46_i0 hf11_0_0 hf35_0_0
def f6  (x0 : Int) (x1 : (List S40)) (x2 : Int) (x3 : Int) (x4 : ByteArray) (x5 : Int) (x6 : Int) : M Bool := fun Q => f9 fun r3 => if r3 = true then (f10 x0 fun r15 => if r15.2 = (0 : Int) then (f13 x1 (30 : Int) fun r29 => if r29 = true then (f6_j1 x0 x1 x2 x3 x4 x5 x6 Q r15.1 (decide ((x4.size : Int) > (100 : Int)))) else (f6_j1 x0 x1 x2 x3 x4 x5 x6 Q r15.1 true)) else (f6_j1 x0 x1 x2 x3 x4 x5 x6 Q r15.1 true)) else (Q false)
theorem f6_ok  {z : Base} {w : World} {m : Mem} {G : List Grp} {a_x1 : Option Addr} {c_x1 : Nat} {x0 : Int} {x1 : (List S40)} {x2 : Int} {x3 : Int} {x4 : ByteArray} {x5 : Int} {x6 : Int} {Q : Bool → Prop} (hst : W.St z w m (G)) (h_x0 : InR .i64 x0) (h_x1 : Sl k40 48 m a_x1 c_x1 x1) (h_x2 : InR .i64 x2) (h_x3 : InR .i64 x3) (h_x4 : x4.size ≤ reach) (h_x5 : InR .i64 x5) (h_x6 : InR .u8 x6) (hr : f6  x0 x1 x2 x3 x4 x5 x6 Q) : Calls Try.prog 6 #[.int .i64 x0, .slice a_x1 x1.length c_x1, .int .i64 x2, .int .i64 x3, .string x4, .int .i64 x5, .int .u8 x6] w (f6_post z m G  Q) := by
  refine calls_begin (c := f6_c) (n := 199) [.int .i64 x0, .slice a_x1 x1.length c_x1, .int .i64 x2, .int .i64 x3, .string x4, .int .i64 x5, .int .u8 x6] Try.func6 (by kernel_rfl) Try.ntmps6 (Nat.le_of_ble_eq_true rfl) fun b cs a0 hbf hbk hs0 => ?_
  have hm0 := Mem.le.refl m
  have hQ : ∀ {r : Bool}, Q r → f6_YR z m G (f6_post z m G  Q)  r := by intro r hq m' w'  hm' hst' ; exact ⟨r,  W.St.less hm' hst', rfl, hq⟩
  unfold f6 at hr
  refine to_seq (sub [0] f6_c) (sub [1] f6_c) (by kernel_rfl) ?_
  refine to_nd 0 1 (rops (sub [0] f6_c)) (by kernel_rfl) (by kernel_rfl) ?_
  refine nd_q (c := 0) 1 [0, 1, 2, 3, 4, 5, 6] hs0 [(0, .int .i64 x0), (1, .slice a_x1 x1.length c_x1), (2, .int .i64 x2), (3, .int .i64 x3), (4, .string x4), (5, .int .i64 x5), (6, .int .u8 x6)] (by kernel_rfl) fun a1 hs2 => ?_
  refine nd_done ?_
  refine to_seq (sub [1, 0] f6_c) (sub [1, 1] f6_c) (by kernel_rfl) ?_
  refine to_seq (sub [1, 0, 0] f6_c) (sub [1, 0, 1] f6_c) (by kernel_rfl) ?_
  refine to_nd 1 2 (rops (sub [1, 0, 0] f6_c)) (by kernel_rfl) (by kernel_rfl) ?_
  refine nd_op (op_call (some 30) hs2 (by kernel_rfl) (by kernel_rfl) ((f9_ok hst hr).mono ?_))
  rintro _ w4 ⟨r3, hst7, rfl, hr⟩
  revert hr; intro hr
  refine ⟨_, rfl, fun a5 hs6 => ?_⟩
  refine nd_q (c := 0) 1 [0, 1, 2, 3, 4, 5, 6, 31] hs6 [(0, .int .i64 x0), (1, .slice a_x1 x1.length c_x1), (2, .int .i64 x2), (3, .int .i64 x3), (4, .string x4), (5, .int .i64 x5), (6, .int .u8 x6), (31, .bool (!r3))] (by kernel_rfl) fun a10 hs11 => ?_
  refine nd_done ?_
  by_cases hb12 : r3 = true
  rotate_left
  · rw [if_neg hb12] at hr
    rw [(bF hb12)] at hs11
    refine to_then (.tmp 31) (sub [1, 0, 1, 0] f6_c) (sub [1, 0, 1, 1] f6_c) (by kernel_rfl) hs11 (by kernel_rfl) ?_
    refine to_seq (sub [1, 0, 1, 0, 0] f6_c) (sub [1, 0, 1, 0, 1] f6_c) (by kernel_rfl) ?_
    refine to_nd 2 1 (rops (sub [1, 0, 1, 0, 0] f6_c)) (by kernel_rfl) (by kernel_rfl) ?_
    refine nd_q (c := 0) 1 [14] hs11 [(14, .bool false)] (by kernel_rfl) fun a48 hs49 => ?_
    refine nd_done ?_
    exact to_ret (v := .bool false) (by kernel_rfl) hbf Try.func6 hbk hs49 (by kernel_rfl) (hQ hr (Mem.le.refl _) hst7 )
  rw [if_pos hb12] at hr
  rw [(bT hb12)] at hs11
  refine to_else (.tmp 31) (sub [1, 0, 1, 0] f6_c) (sub [1, 0, 1, 1] f6_c) (by kernel_rfl) hs11 (by kernel_rfl) ?_
  refine to_skip (by kernel_rfl) ?_
  refine to_seq (sub [1, 1, 0] f6_c) (sub [1, 1, 1] f6_c) (by kernel_rfl) ?_
  refine to_nd 3 7 (rops (sub [1, 1, 0] f6_c)) (by kernel_rfl) (by kernel_rfl) ?_
  refine nd_q (c := 6) 1 [0, 1, 2, 3, 4, 5, 6, 33] hs11 [(0, .int .i64 x0), (1, .slice a_x1 x1.length c_x1), (2, .int .i64 x2), (3, .int .i64 x3), (4, .string x4), (5, .int .i64 x5), (6, .int .u8 x6), (33, .int .i64 x0)] (by kernel_rfl) fun a13 hs14 => ?_
  refine nd_op (op_call (some 34) hs14 (by kernel_rfl) (by kernel_rfl) ((f10_ok hst7 h_x0 hr).mono ?_))
  rintro _ w16 ⟨r15, p15_0_0, I15_0_0, hst19, rfl, hf15_0_0, hf15_1_0, hr⟩
  revert hr; intro hr
  refine ⟨_, rfl, fun a17 hs18 => ?_⟩
  refine nd_q (c := 0) 5 [0, 1, 2, 3, 4, 5, 6, 15, 16] hs18 [(0, .int .i64 x0), (1, .slice a_x1 x1.length c_x1), (2, .int .i64 x2), (3, .int .i64 x3), (4, .string x4), (5, .int .i64 x5), (6, .int .u8 x6), (15, .pointer p15_0_0), (16, .int .i64 r15.2)] (by kernel_rfl) fun a22 hs23 => ?_
  refine nd_done ?_
  refine to_seq (sub [1, 1, 1, 0] f6_c) (sub [1, 1, 1, 1] f6_c) (by kernel_rfl) ?_
  refine to_seq (sub [1, 1, 1, 0, 0] f6_c) (sub [1, 1, 1, 0, 1] f6_c) (by kernel_rfl) ?_
  refine to_nd 4 12 (rops (sub [1, 1, 1, 0, 0] f6_c)) (by kernel_rfl) (by kernel_rfl) ?_
  refine nd_q (c := 9) 3 [0, 1, 2, 3, 4, 5, 6, 15, 39] hs23 [(0, .int .i64 x0), (1, .slice a_x1 x1.length c_x1), (2, .int .i64 x2), (3, .int .i64 x3), (4, .string x4), (5, .int .i64 x5), (6, .int .u8 x6), (15, .pointer p15_0_0), (39, .bool (r15.2 != (0 : Int)))] (by kernel_rfl) fun a24 hs25 => ?_
  by_cases hb26 : r15.2 = (0 : Int)
  rotate_left
  · rw [if_neg hb26] at hr
    rw [(neT hb26)] at hs25
    refine nd_q (c := 0) 9 [0, 1, 2, 3, 4, 5, 6, 15, 48] hs25 [(0, .int .i64 x0), (1, .slice a_x1 x1.length c_x1), (2, .int .i64 x2), (3, .int .i64 x3), (4, .string x4), (5, .int .i64 x5), (6, .int .u8 x6), (15, .pointer p15_0_0), (48, .bool true)] (by kernel_rfl) fun a45 hs46 => ?_
    refine nd_done ?_
    have hs47 := hs46.kept [0, 1, 2, 3, 4, 5, 6, 15, 48] [(0, .int .i64 x0), (1, .slice a_x1 x1.length c_x1), (2, .int .i64 x2), (3, .int .i64 x3), (4, .string x4), (5, .int .i64 x5), (6, .int .u8 x6), (15, .pointer p15_0_0), (48, .bool true)] (by kernel_rfl)
    exact f6_j1_ok hbf hbk h_x0 h_x1 h_x2 h_x3 h_x4 h_x5 h_x6  hQ hr (Mem.le.refl _) hst19 hs47 hf15_0_0
  rw [if_pos hb26] at hr
  rw [(neF hb26)] at hs25
  refine nd_q (c := 8) 1 [0, 1, 2, 3, 4, 5, 6, 15, 39, 40] hs25 [(0, .int .i64 x0), (1, .slice a_x1 x1.length c_x1), (2, .int .i64 x2), (3, .int .i64 x3), (4, .string x4), (5, .int .i64 x5), (6, .int .u8 x6), (15, .pointer p15_0_0), (39, .bool false), (40, .slice a_x1 x1.length c_x1)] (by kernel_rfl) fun a27 hs28 => ?_
  refine nd_op (op_call (some 41) hs28 (by kernel_rfl) (by kernel_rfl) ((f13_ok hst19 h_x1 (inr_of (by kernel_rfl)) hr).mono ?_))
  rintro _ w30 ⟨r29, hst33, rfl, hr⟩
  revert hr; intro hr
  refine ⟨_, rfl, fun a31 hs32 => ?_⟩
  refine nd_q (c := 4) 3 [0, 1, 2, 3, 4, 5, 6, 15, 44] hs32 [(0, .int .i64 x0), (1, .slice a_x1 x1.length c_x1), (2, .int .i64 x2), (3, .int .i64 x3), (4, .string x4), (5, .int .i64 x5), (6, .int .u8 x6), (15, .pointer p15_0_0), (44, .bool (!r29))] (by kernel_rfl) fun a36 hs37 => ?_
  by_cases hb38 : r29 = true
  · rw [if_pos hb38] at hr
    rw [(bT hb38)] at hs37
    refine nd_q (c := 0) 4 [0, 1, 2, 3, 4, 5, 6, 15, 48] hs37 [(0, .int .i64 x0), (1, .slice a_x1 x1.length c_x1), (2, .int .i64 x2), (3, .int .i64 x3), (4, .string x4), (5, .int .i64 x5), (6, .int .u8 x6), (15, .pointer p15_0_0), (48, .bool (decide ((x4.size : Int) > (100 : Int))))] (by kernel_rfl) fun a39 hs40 => ?_
    refine nd_done ?_
    have hs41 := hs40.kept [0, 1, 2, 3, 4, 5, 6, 15, 48] [(0, .int .i64 x0), (1, .slice a_x1 x1.length c_x1), (2, .int .i64 x2), (3, .int .i64 x3), (4, .string x4), (5, .int .i64 x5), (6, .int .u8 x6), (15, .pointer p15_0_0), (48, .bool (decide ((x4.size : Int) > (100 : Int))))] (by kernel_rfl)
    exact f6_j1_ok hbf hbk h_x0 h_x1 h_x2 h_x3 h_x4 h_x5 h_x6  hQ hr (Mem.le.refl _) hst33 hs41 hf15_0_0
  rw [if_neg hb38] at hr
  rw [(bF hb38)] at hs37
  refine nd_q (c := 0) 4 [0, 1, 2, 3, 4, 5, 6, 15, 48] hs37 [(0, .int .i64 x0), (1, .slice a_x1 x1.length c_x1), (2, .int .i64 x2), (3, .int .i64 x3), (4, .string x4), (5, .int .i64 x5), (6, .int .u8 x6), (15, .pointer p15_0_0), (48, .bool true)] (by kernel_rfl) fun a42 hs43 => ?_
  refine nd_done ?_
  have hs44 := hs43.kept [0, 1, 2, 3, 4, 5, 6, 15, 48] [(0, .int .i64 x0), (1, .slice a_x1 x1.length c_x1), (2, .int .i64 x2), (3, .int .i64 x3), (4, .string x4), (5, .int .i64 x5), (6, .int .u8 x6), (15, .pointer p15_0_0), (48, .bool true)] (by kernel_rfl)
  exact f6_j1_ok hbf hbk h_x0 h_x1 h_x2 h_x3 h_x4 h_x5 h_x6  hQ hr (Mem.le.refl _) hst33 hs44 hf15_0_0
def PureChannelCarries : Prop := ∀ (x0 : Int) (x1 : (List S40)) (x2 : Int) (x3 : Int) (x4 : ByteArray) (x5 : Int) (x6 : Int), (InR .i64) x0 → (WL W40 48) x1 → (InR .i64) x2 → (InR .i64) x3 → (fun s => s.size ≤ reach) x4 → (InR .i64) x5 → (InR .u8) x6 →  f6 x0 x1 x2 x3 x4 x5 x6 (fun r => r = true)
end Go.Proofs.Ytcnlbnccghjeaaa.W
