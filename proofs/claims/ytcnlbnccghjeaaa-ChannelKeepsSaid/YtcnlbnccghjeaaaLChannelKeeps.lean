/- Printed by gen2.py: a law as a Lean function, and the proof that the call comes to it. Conditions: none. -/
import Derived.Test.YtcnlbnccghjeaaaF7
set_option linter.unusedVariables false
set_option linter.unusedSimpArgs false
set_option maxRecDepth 100000
namespace Go.Proofs.Ytcnlbnccghjeaaa.W
open Go

/-! ### 5: salchow/salchowlaw50.ChannelKeeps -/
noncomputable def f5_c : Code := codeOf Try.f5
def f5_post (z : Base) (m : Mem) (G : List Grp)  (Q : Bool → Prop) : Ending → World → Prop := fun e w' => ∃ (r : Bool) , W.St z w' m (G) ∧ e = .returned (.bool r) ∧ Q r
def f5_YR (z : Base) (m0 : Mem) (G : List Grp) (R : Ending → World → Prop)  (r : Bool) : Prop := ∀ {m : Mem} {w : World} , m0.le m → W.St z w m (G) →  R (.returned (.bool r)) w
theorem f5_YR_mono {z : Base} {m0 m1 : Mem} {G : List Grp} {R : Ending → World → Prop}  {r : Bool} (hm : m0.le m1) (h : f5_YR z m0 G R  r) : f5_YR z m1 G R  r := by
  intro m w  hm'
  exact h (hm.trans hm')
def f5_l2_Y (z : Base) (m0 : Mem) (G : List Grp) (b : Frame) (cs : List Frame) (R : Ending → World → Prop) (a_list'1 : Option Addr) (c_list'1 : Nat) (list'1 : (List S40)) (c'5 : (Option S62)) (next'7 : Int) (i'8 : Int) : Prop := ∀ {m : Mem} {w : World} {a : Act} {p_c'5 : Option Addr} {I_c'5 : Grp}, m0.le m → W.St z w m (I_c'5 :: G) → Has 151 a [(1, .slice a_list'1 list'1.length c_list'1), (5, .pointer p_c'5), (7, .int .i64 next'7), (8, .int .i64 i'8)] → (OwnN62 m p_c'5 I_c'5 c'5) → (InR .i64 next'7) → (InR .i64 i'8) → Reach Try.prog b cs R [.code (sub [1, 1, 1, 1, 1, 0, 1, 0, 0] f5_c), .inLoop (sub [1, 1, 1, 1, 1, 0, 1, 0, 0] f5_c), .inBlock 0, .code (sub [1, 1, 1, 1, 1, 1] f5_c)] a w
def f5_l6_Y (z : Base) (m0 : Mem) (G : List Grp) (b : Frame) (cs : List Frame) (R : Ending → World → Prop) (a_list'1 : Option Addr) (c_list'1 : Nat) (b_c'5b : Nat) (I_c'5b : Grp) (a_p'12 : Option Addr) (c_p'12 : Nat) (I_p'12 : Grp) (a_q'13 : Option Addr) (c_q'13 : Nat) (I_q'13 : Grp) (list'1 : (List S40)) (c'5b : S62) (next'7 : Int) (i'8 : Int) (p'12 : (List Int)) (q'13 : (List Int)) (k'17 : Int) (j'18 : Int) : Prop := ∀ {m : Mem} {w : World} {a : Act} , m0.le m → W.St z w m (I_c'5b :: I_p'12 :: I_q'13 :: G) → Has 151 a [(1, .slice a_list'1 list'1.length c_list'1), (5, .pointer (some ⟨b_c'5b, 0, none⟩)), (7, .int .i64 next'7), (8, .int .i64 i'8), (12, .slice a_p'12 p'12.length c_p'12), (13, .slice a_q'13 q'13.length c_q'13), (17, .int .i64 k'17), (18, .int .i64 j'18)] → (InR .i64 k'17) → (InR .i64 j'18) → Reach Try.prog b cs R [.code (sub [1, 1, 1, 1, 1, 0, 1, 0, 0, 1, 0, 0, 1, 1, 1, 1, 1, 1, 0, 1, 0, 0] f5_c), .inLoop (sub [1, 1, 1, 1, 1, 0, 1, 0, 0, 1, 0, 0, 1, 1, 1, 1, 1, 1, 0, 1, 0, 0] f5_c), .inBlock 2, .code (sub [1, 1, 1, 1, 1, 0, 1, 0, 0, 1, 0, 0, 1, 1, 1, 1, 1, 1, 1] f5_c), .inBlock 1, .code (sub [1, 1, 1, 1, 1, 0, 1, 0, 0, 1, 1] f5_c), .inLoop (sub [1, 1, 1, 1, 1, 0, 1, 0, 0] f5_c), .inBlock 0, .code (sub [1, 1, 1, 1, 1, 1] f5_c)] a w
def f5_j10_Y (z : Base) (m0 : Mem) (G : List Grp) (b : Frame) (cs : List Frame) (R : Ending → World → Prop) (a_list'1 : Option Addr) (c_list'1 : Nat) (b_c'5b : Nat) (I_c'5b : Grp) (a_p'12 : Option Addr) (c_p'12 : Nat) (I_p'12 : Grp) (a_q'13 : Option Addr) (c_q'13 : Nat) (I_q'13 : Grp) (list'1 : (List S40)) (c'5b : S62) (next'7 : Int) (i'8 : Int) (p'12 : (List Int)) (q'13 : (List Int)) (k'17 : Int) (j'18 : Int) : Prop := ∀ {m : Mem} {w : World} {a : Act} , m0.le m → W.St z w m (I_c'5b :: I_p'12 :: I_q'13 :: G) → Has 151 a [(1, .slice a_list'1 list'1.length c_list'1), (5, .pointer (some ⟨b_c'5b, 0, none⟩)), (7, .int .i64 next'7), (8, .int .i64 i'8), (12, .slice a_p'12 p'12.length c_p'12), (13, .slice a_q'13 q'13.length c_q'13), (17, .int .i64 k'17), (18, .int .i64 j'18)] → (InR .i64 k'17) → (InR .i64 j'18) → Reach Try.prog b cs R [.inBlock 3, .code (sub [1, 1, 1, 1, 1, 0, 1, 0, 0, 1, 0, 0, 1, 1, 1, 1, 1, 1, 0, 1, 0, 0, 1, 1] f5_c), .inLoop (sub [1, 1, 1, 1, 1, 0, 1, 0, 0, 1, 0, 0, 1, 1, 1, 1, 1, 1, 0, 1, 0, 0] f5_c), .inBlock 2, .code (sub [1, 1, 1, 1, 1, 0, 1, 0, 0, 1, 0, 0, 1, 1, 1, 1, 1, 1, 1] f5_c), .inBlock 1, .code (sub [1, 1, 1, 1, 1, 0, 1, 0, 0, 1, 1] f5_c), .inLoop (sub [1, 1, 1, 1, 1, 0, 1, 0, 0] f5_c), .inBlock 0, .code (sub [1, 1, 1, 1, 1, 1] f5_c)] a w
def f5_j10 (list'1 : (List S40)) (c'5b : S62) (next'7 : Int) (i'8 : Int) (p'12 : (List Int)) (q'13 : (List Int)) (X : Int → Int → Prop) (k'17 : Int) (j'18 : Int) : Prop := X k'17 (w64 (j'18 + (1 : Int)))
theorem f5_j10_ok {z : Base} {m0 : Mem} {G : List Grp} {b : Frame} {cs : List Frame} {R : Ending → World → Prop} {a_list'1 : Option Addr} {c_list'1 : Nat} {b_c'5b : Nat} {I_c'5b : Grp} {a_p'12 : Option Addr} {c_p'12 : Nat} {I_p'12 : Grp} {a_q'13 : Option Addr} {c_q'13 : Nat} {I_q'13 : Grp} {list'1 : (List S40)} {c'5b : S62} {next'7 : Int} {i'8 : Int} {p'12 : (List Int)} {q'13 : (List Int)} {X : Int → Int → Prop} (hbf : b.fn = 5) (hbk : b.kind = .normal) (h_list'1 : Sl k40 48 m0 a_list'1 c_list'1 list'1) (h_c'5b : OwnS62 m0 b_c'5b I_c'5b c'5b) (h_next'7 : InR .i64 next'7) (h_i'8 : InR .i64 i'8) (h_p'12 : OwnSl (kInt .i64) 8 3 m0 a_p'12 c_p'12 I_p'12 p'12) (h_q'13 : OwnSl (kInt .i64) 8 3 m0 a_q'13 c_q'13 I_q'13 q'13)  (hX : ∀ {k'17 : Int} {j'18 : Int}, X k'17 j'18 → f5_l6_Y z m0 G b cs R a_list'1 c_list'1 b_c'5b I_c'5b a_p'12 c_p'12 I_p'12 a_q'13 c_q'13 I_q'13 list'1 c'5b next'7 i'8 p'12 q'13 k'17 j'18) : ∀ {k'17 : Int} {j'18 : Int}, f5_j10 list'1 c'5b next'7 i'8 p'12 q'13 X k'17 j'18 → f5_j10_Y z m0 G b cs R a_list'1 c_list'1 b_c'5b I_c'5b a_p'12 c_p'12 I_p'12 a_q'13 c_q'13 I_q'13 list'1 c'5b next'7 i'8 p'12 q'13 k'17 j'18 := by
  intro k'17 j'18 hr m w a0  hm0 hst hs0 h_k'17 h_j'18
  unfold f5_j10 at hr
  refine reach_inBlock ?_
  refine to_nd 22 3 (rops (sub [1, 1, 1, 1, 1, 0, 1, 0, 0, 1, 0, 0, 1, 1, 1, 1, 1, 1, 0, 1, 0, 0, 1, 1] f5_c)) (by kernel_rfl) (by kernel_rfl) ?_
  refine nd_q (c := 0) 3 [1, 5, 7, 8, 12, 13, 17, 18] hs0 [(1, .slice a_list'1 list'1.length c_list'1), (5, .pointer (some ⟨b_c'5b, 0, none⟩)), (7, .int .i64 next'7), (8, .int .i64 i'8), (12, .slice a_p'12 p'12.length c_p'12), (13, .slice a_q'13 q'13.length c_q'13), (17, .int .i64 k'17), (18, .int .i64 (w64 (j'18 + (1 : Int))))] (by kernel_rfl) fun a1 hs2 => ?_
  refine nd_done ?_
  refine reach_inLoop ?_
  have hs3 := hs2.kept [1, 5, 7, 8, 12, 13, 17, 18] [(1, .slice a_list'1 list'1.length c_list'1), (5, .pointer (some ⟨b_c'5b, 0, none⟩)), (7, .int .i64 next'7), (8, .int .i64 i'8), (12, .slice a_p'12 p'12.length c_p'12), (13, .slice a_q'13 q'13.length c_q'13), (17, .int .i64 k'17), (18, .int .i64 (w64 (j'18 + (1 : Int))))] (by kernel_rfl)
  exact hX hr hm0 hst hs3 h_k'17 (wrap_in .i64 _)
def f5_j9_Y (z : Base) (m0 : Mem) (G : List Grp) (b : Frame) (cs : List Frame) (R : Ending → World → Prop) (a_list'1 : Option Addr) (c_list'1 : Nat) (b_c'5b : Nat) (I_c'5b : Grp) (a_p'12 : Option Addr) (c_p'12 : Nat) (I_p'12 : Grp) (a_q'13 : Option Addr) (c_q'13 : Nat) (I_q'13 : Grp) (list'1 : (List S40)) (c'5b : S62) (next'7 : Int) (i'8 : Int) (p'12 : (List Int)) (q'13 : (List Int)) (k'17 : Int) (j'18 : Int) (t'144 : Bool) : Prop := ∀ {m : Mem} {w : World} {a : Act} , m0.le m → W.St z w m (I_c'5b :: I_p'12 :: I_q'13 :: G) → Has 151 a [(1, .slice a_list'1 list'1.length c_list'1), (5, .pointer (some ⟨b_c'5b, 0, none⟩)), (7, .int .i64 next'7), (8, .int .i64 i'8), (12, .slice a_p'12 p'12.length c_p'12), (13, .slice a_q'13 q'13.length c_q'13), (17, .int .i64 k'17), (18, .int .i64 j'18), (144, .bool t'144)] → (InR .i64 k'17) → (InR .i64 j'18) → Reach Try.prog b cs R [.code (sub [1, 1, 1, 1, 1, 0, 1, 0, 0, 1, 0, 0, 1, 1, 1, 1, 1, 1, 0, 1, 0, 0, 1, 0, 0, 1, 1] f5_c), .inBlock 3, .code (sub [1, 1, 1, 1, 1, 0, 1, 0, 0, 1, 0, 0, 1, 1, 1, 1, 1, 1, 0, 1, 0, 0, 1, 1] f5_c), .inLoop (sub [1, 1, 1, 1, 1, 0, 1, 0, 0, 1, 0, 0, 1, 1, 1, 1, 1, 1, 0, 1, 0, 0] f5_c), .inBlock 2, .code (sub [1, 1, 1, 1, 1, 0, 1, 0, 0, 1, 0, 0, 1, 1, 1, 1, 1, 1, 1] f5_c), .inBlock 1, .code (sub [1, 1, 1, 1, 1, 0, 1, 0, 0, 1, 1] f5_c), .inLoop (sub [1, 1, 1, 1, 1, 0, 1, 0, 0] f5_c), .inBlock 0, .code (sub [1, 1, 1, 1, 1, 1] f5_c)] a w
def f5_j9 (list'1 : (List S40)) (c'5b : S62) (next'7 : Int) (i'8 : Int) (p'12 : (List Int)) (q'13 : (List Int)) (X : Int → Int → Prop) (k'17 : Int) (j'18 : Int) (t'144 : Bool) : Prop := if t'144 = true then (f5_j10 list'1 c'5b next'7 i'8 p'12 q'13 X (w64 (k'17 + (1 : Int))) j'18) else (f5_j10 list'1 c'5b next'7 i'8 p'12 q'13 X k'17 j'18)
theorem f5_j9_ok {z : Base} {m0 : Mem} {G : List Grp} {b : Frame} {cs : List Frame} {R : Ending → World → Prop} {a_list'1 : Option Addr} {c_list'1 : Nat} {b_c'5b : Nat} {I_c'5b : Grp} {a_p'12 : Option Addr} {c_p'12 : Nat} {I_p'12 : Grp} {a_q'13 : Option Addr} {c_q'13 : Nat} {I_q'13 : Grp} {list'1 : (List S40)} {c'5b : S62} {next'7 : Int} {i'8 : Int} {p'12 : (List Int)} {q'13 : (List Int)} {X : Int → Int → Prop} (hbf : b.fn = 5) (hbk : b.kind = .normal) (h_list'1 : Sl k40 48 m0 a_list'1 c_list'1 list'1) (h_c'5b : OwnS62 m0 b_c'5b I_c'5b c'5b) (h_next'7 : InR .i64 next'7) (h_i'8 : InR .i64 i'8) (h_p'12 : OwnSl (kInt .i64) 8 3 m0 a_p'12 c_p'12 I_p'12 p'12) (h_q'13 : OwnSl (kInt .i64) 8 3 m0 a_q'13 c_q'13 I_q'13 q'13)  (hX : ∀ {k'17 : Int} {j'18 : Int}, X k'17 j'18 → f5_l6_Y z m0 G b cs R a_list'1 c_list'1 b_c'5b I_c'5b a_p'12 c_p'12 I_p'12 a_q'13 c_q'13 I_q'13 list'1 c'5b next'7 i'8 p'12 q'13 k'17 j'18) : ∀ {k'17 : Int} {j'18 : Int} {t'144 : Bool}, f5_j9 list'1 c'5b next'7 i'8 p'12 q'13 X k'17 j'18 t'144 → f5_j9_Y z m0 G b cs R a_list'1 c_list'1 b_c'5b I_c'5b a_p'12 c_p'12 I_p'12 a_q'13 c_q'13 I_q'13 list'1 c'5b next'7 i'8 p'12 q'13 k'17 j'18 t'144 := by
  intro k'17 j'18 t'144 hr m w a0  hm0 hst hs0 h_k'17 h_j'18
  unfold f5_j9 at hr
  by_cases hb1 : t'144 = true
  rotate_left
  · rw [if_neg hb1] at hr
    rw [(bF hb1)] at hs0
    refine to_else (.tmp 144) (sub [1, 1, 1, 1, 1, 0, 1, 0, 0, 1, 0, 0, 1, 1, 1, 1, 1, 1, 0, 1, 0, 0, 1, 0, 0, 1, 1, 0] f5_c) (sub [1, 1, 1, 1, 1, 0, 1, 0, 0, 1, 0, 0, 1, 1, 1, 1, 1, 1, 0, 1, 0, 0, 1, 0, 0, 1, 1, 1] f5_c) (by kernel_rfl) hs0 (by kernel_rfl) ?_
    refine to_skip (by kernel_rfl) ?_
    have hs5 := hs0.kept [1, 5, 7, 8, 12, 13, 17, 18] [(1, .slice a_list'1 list'1.length c_list'1), (5, .pointer (some ⟨b_c'5b, 0, none⟩)), (7, .int .i64 next'7), (8, .int .i64 i'8), (12, .slice a_p'12 p'12.length c_p'12), (13, .slice a_q'13 q'13.length c_q'13), (17, .int .i64 k'17), (18, .int .i64 j'18)] (by kernel_rfl)
    exact f5_j10_ok hbf hbk h_list'1 h_c'5b h_next'7 h_i'8 h_p'12 h_q'13  hX hr hm0 hst hs5 h_k'17 h_j'18
  rw [if_pos hb1] at hr
  rw [(bT hb1)] at hs0
  refine to_then (.tmp 144) (sub [1, 1, 1, 1, 1, 0, 1, 0, 0, 1, 0, 0, 1, 1, 1, 1, 1, 1, 0, 1, 0, 0, 1, 0, 0, 1, 1, 0] f5_c) (sub [1, 1, 1, 1, 1, 0, 1, 0, 0, 1, 0, 0, 1, 1, 1, 1, 1, 1, 0, 1, 0, 0, 1, 0, 0, 1, 1, 1] f5_c) (by kernel_rfl) hs0 (by kernel_rfl) ?_
  refine to_nd 26 3 (rops (sub [1, 1, 1, 1, 1, 0, 1, 0, 0, 1, 0, 0, 1, 1, 1, 1, 1, 1, 0, 1, 0, 0, 1, 0, 0, 1, 1, 0] f5_c)) (by kernel_rfl) (by kernel_rfl) ?_
  refine nd_q (c := 0) 3 [1, 5, 7, 8, 12, 13, 17, 18] hs0 [(1, .slice a_list'1 list'1.length c_list'1), (5, .pointer (some ⟨b_c'5b, 0, none⟩)), (7, .int .i64 next'7), (8, .int .i64 i'8), (12, .slice a_p'12 p'12.length c_p'12), (13, .slice a_q'13 q'13.length c_q'13), (17, .int .i64 (w64 (k'17 + (1 : Int)))), (18, .int .i64 j'18)] (by kernel_rfl) fun a2 hs3 => ?_
  refine nd_done ?_
  have hs4 := hs3.kept [1, 5, 7, 8, 12, 13, 17, 18] [(1, .slice a_list'1 list'1.length c_list'1), (5, .pointer (some ⟨b_c'5b, 0, none⟩)), (7, .int .i64 next'7), (8, .int .i64 i'8), (12, .slice a_p'12 p'12.length c_p'12), (13, .slice a_q'13 q'13.length c_q'13), (17, .int .i64 (w64 (k'17 + (1 : Int)))), (18, .int .i64 j'18)] (by kernel_rfl)
  exact f5_j10_ok hbf hbk h_list'1 h_c'5b h_next'7 h_i'8 h_p'12 h_q'13  hX hr hm0 hst hs4 (wrap_in .i64 _) h_j'18
def f5_j8_Y (z : Base) (m0 : Mem) (G : List Grp) (b : Frame) (cs : List Frame) (R : Ending → World → Prop) (a_list'1 : Option Addr) (c_list'1 : Nat) (b_c'5b : Nat) (I_c'5b : Grp) (a_p'12 : Option Addr) (c_p'12 : Nat) (I_p'12 : Grp) (a_q'13 : Option Addr) (c_q'13 : Nat) (I_q'13 : Grp) (list'1 : (List S40)) (c'5b : S62) (next'7 : Int) (i'8 : Int) (p'12 : (List Int)) (q'13 : (List Int)) (k'17 : Int) (j'18 : Int) (t'129 : Bool) : Prop := ∀ {m : Mem} {w : World} {a : Act} , m0.le m → W.St z w m (I_c'5b :: I_p'12 :: I_q'13 :: G) → Has 151 a [(1, .slice a_list'1 list'1.length c_list'1), (5, .pointer (some ⟨b_c'5b, 0, none⟩)), (7, .int .i64 next'7), (8, .int .i64 i'8), (12, .slice a_p'12 p'12.length c_p'12), (13, .slice a_q'13 q'13.length c_q'13), (17, .int .i64 k'17), (18, .int .i64 j'18), (129, .bool t'129)] → (InR .i64 k'17) → (InR .i64 j'18) → Reach Try.prog b cs R [.code (sub [1, 1, 1, 1, 1, 0, 1, 0, 0, 1, 0, 0, 1, 1, 1, 1, 1, 1, 0, 1, 0, 0, 1, 0, 0, 0, 1] f5_c), .code (sub [1, 1, 1, 1, 1, 0, 1, 0, 0, 1, 0, 0, 1, 1, 1, 1, 1, 1, 0, 1, 0, 0, 1, 0, 0, 1] f5_c), .inBlock 3, .code (sub [1, 1, 1, 1, 1, 0, 1, 0, 0, 1, 0, 0, 1, 1, 1, 1, 1, 1, 0, 1, 0, 0, 1, 1] f5_c), .inLoop (sub [1, 1, 1, 1, 1, 0, 1, 0, 0, 1, 0, 0, 1, 1, 1, 1, 1, 1, 0, 1, 0, 0] f5_c), .inBlock 2, .code (sub [1, 1, 1, 1, 1, 0, 1, 0, 0, 1, 0, 0, 1, 1, 1, 1, 1, 1, 1] f5_c), .inBlock 1, .code (sub [1, 1, 1, 1, 1, 0, 1, 0, 0, 1, 1] f5_c), .inLoop (sub [1, 1, 1, 1, 1, 0, 1, 0, 0] f5_c), .inBlock 0, .code (sub [1, 1, 1, 1, 1, 1] f5_c)] a w
def f5_j8 (list'1 : (List S40)) (c'5b : S62) (next'7 : Int) (i'8 : Int) (p'12 : (List Int)) (q'13 : (List Int)) (Q : Bool → Prop) (X : Int → Int → Prop) (k'17 : Int) (j'18 : Int) (t'129 : Bool) : Prop := if t'129 = true then (Q false) else (if k'17 < (q'13.length : Int) then (ofO (ix q'13 k'17) fun x23 => ofO (ix p'12 j'18) fun x36 => f5_j9 list'1 c'5b next'7 i'8 p'12 q'13 X k'17 j'18 (x23 == x36)) else (f5_j9 list'1 c'5b next'7 i'8 p'12 q'13 X k'17 j'18 false))
theorem f5_j8_ok {z : Base} {m0 : Mem} {G : List Grp} {b : Frame} {cs : List Frame} {R : Ending → World → Prop} {a_list'1 : Option Addr} {c_list'1 : Nat} {b_c'5b : Nat} {I_c'5b : Grp} {a_p'12 : Option Addr} {c_p'12 : Nat} {I_p'12 : Grp} {a_q'13 : Option Addr} {c_q'13 : Nat} {I_q'13 : Grp} {list'1 : (List S40)} {c'5b : S62} {next'7 : Int} {i'8 : Int} {p'12 : (List Int)} {q'13 : (List Int)} {Q : Bool → Prop} {X : Int → Int → Prop} (hbf : b.fn = 5) (hbk : b.kind = .normal) (h_list'1 : Sl k40 48 m0 a_list'1 c_list'1 list'1) (h_c'5b : OwnS62 m0 b_c'5b I_c'5b c'5b) (h_next'7 : InR .i64 next'7) (h_i'8 : InR .i64 i'8) (h_p'12 : OwnSl (kInt .i64) 8 3 m0 a_p'12 c_p'12 I_p'12 p'12) (h_q'13 : OwnSl (kInt .i64) 8 3 m0 a_q'13 c_q'13 I_q'13 q'13)  (hQ : ∀ {r : Bool}, Q r → f5_YR z m0 G R  r) (hX : ∀ {k'17 : Int} {j'18 : Int}, X k'17 j'18 → f5_l6_Y z m0 G b cs R a_list'1 c_list'1 b_c'5b I_c'5b a_p'12 c_p'12 I_p'12 a_q'13 c_q'13 I_q'13 list'1 c'5b next'7 i'8 p'12 q'13 k'17 j'18) : ∀ {k'17 : Int} {j'18 : Int} {t'129 : Bool}, f5_j8 list'1 c'5b next'7 i'8 p'12 q'13 Q X k'17 j'18 t'129 → f5_j8_Y z m0 G b cs R a_list'1 c_list'1 b_c'5b I_c'5b a_p'12 c_p'12 I_p'12 a_q'13 c_q'13 I_q'13 list'1 c'5b next'7 i'8 p'12 q'13 k'17 j'18 t'129 := by
  intro k'17 j'18 t'129 hr m w a0  hm0 hst hs0 h_k'17 h_j'18
  unfold f5_j8 at hr
  by_cases hb1 : t'129 = true
  · rw [if_pos hb1] at hr
    rw [(bT hb1)] at hs0
    refine to_then (.tmp 129) (sub [1, 1, 1, 1, 1, 0, 1, 0, 0, 1, 0, 0, 1, 1, 1, 1, 1, 1, 0, 1, 0, 0, 1, 0, 0, 0, 1, 0] f5_c) (sub [1, 1, 1, 1, 1, 0, 1, 0, 0, 1, 0, 0, 1, 1, 1, 1, 1, 1, 0, 1, 0, 0, 1, 0, 0, 0, 1, 1] f5_c) (by kernel_rfl) hs0 (by kernel_rfl) ?_
    refine to_seq (sub [1, 1, 1, 1, 1, 0, 1, 0, 0, 1, 0, 0, 1, 1, 1, 1, 1, 1, 0, 1, 0, 0, 1, 0, 0, 0, 1, 0, 0] f5_c) (sub [1, 1, 1, 1, 1, 0, 1, 0, 0, 1, 0, 0, 1, 1, 1, 1, 1, 1, 0, 1, 0, 0, 1, 0, 0, 0, 1, 0, 1] f5_c) (by kernel_rfl) ?_
    refine to_nd 24 1 (rops (sub [1, 1, 1, 1, 1, 0, 1, 0, 0, 1, 0, 0, 1, 1, 1, 1, 1, 1, 0, 1, 0, 0, 1, 0, 0, 0, 1, 0, 0] f5_c)) (by kernel_rfl) (by kernel_rfl) ?_
    refine nd_q (c := 0) 1 [4] hs0 [(4, .bool false)] (by kernel_rfl) fun a2 hs3 => ?_
    refine nd_done ?_
    have hst4 := W.St.drop [] hst
    have hst5 := W.St.drop [] hst4
    have hst6 := W.St.drop [] hst5
    exact to_ret (v := .bool false) (by kernel_rfl) hbf Try.func5 hbk hs3 (by kernel_rfl) (hQ hr hm0 hst6 )
  rw [if_neg hb1] at hr
  rw [(bF hb1)] at hs0
  refine to_else (.tmp 129) (sub [1, 1, 1, 1, 1, 0, 1, 0, 0, 1, 0, 0, 1, 1, 1, 1, 1, 1, 0, 1, 0, 0, 1, 0, 0, 0, 1, 0] f5_c) (sub [1, 1, 1, 1, 1, 0, 1, 0, 0, 1, 0, 0, 1, 1, 1, 1, 1, 1, 0, 1, 0, 0, 1, 0, 0, 0, 1, 1] f5_c) (by kernel_rfl) hs0 (by kernel_rfl) ?_
  refine to_skip (by kernel_rfl) ?_
  refine to_seq (sub [1, 1, 1, 1, 1, 0, 1, 0, 0, 1, 0, 0, 1, 1, 1, 1, 1, 1, 0, 1, 0, 0, 1, 0, 0, 1, 0] f5_c) (sub [1, 1, 1, 1, 1, 0, 1, 0, 0, 1, 0, 0, 1, 1, 1, 1, 1, 1, 0, 1, 0, 0, 1, 0, 0, 1, 1] f5_c) (by kernel_rfl) ?_
  have hs7 := hs0.kept [1, 5, 7, 8, 12, 13, 17, 18] [(1, .slice a_list'1 list'1.length c_list'1), (5, .pointer (some ⟨b_c'5b, 0, none⟩)), (7, .int .i64 next'7), (8, .int .i64 i'8), (12, .slice a_p'12 p'12.length c_p'12), (13, .slice a_q'13 q'13.length c_q'13), (17, .int .i64 k'17), (18, .int .i64 j'18)] (by kernel_rfl)
  refine to_dr 25 15 (rops (sub [1, 1, 1, 1, 1, 0, 1, 0, 0, 1, 0, 0, 1, 1, 1, 1, 1, 1, 0, 1, 0, 0, 1, 0, 0, 1, 0] f5_c)) (by kernel_rfl) (by kernel_rfl) (by kernel_rfl) [] (fun w => Go.Proofs.Ytcnlbnccghjeaaa.W.St z w m (I_c'5b :: I_p'12 :: I_q'13 :: G)) (fun _ _ => True) fun hd8 => ?_
  have hst10 := hst.drawn (w.drawn + 1)
  generalize hw11 : ({ w with drawn := w.drawn + 1 } : World) = w9 at hst10 ⊢
  clear hw11
  refine dr_q (fuel := 10) [0, 1, 2, 3, 4] [1, 5, 7, 8, 12, 13, 17, 18, 134] [] hs7 hd8 ⟨hst10, fun _ hx => by cases hx⟩ (by kernel_rfl) (by kernel_rfl) ([(134, .bool (decide (k'17 < (q'13.length : Int)))), (133, .bool (decide (k'17 < (q'13.length : Int)))), (132, .int .i64 (q'13.length : Int)), (131, .slice a_q'13 q'13.length c_q'13), (130, .int .i64 k'17)] ++ [(1, .slice a_list'1 list'1.length c_list'1), (5, .pointer (some ⟨b_c'5b, 0, none⟩)), (7, .int .i64 next'7), (8, .int .i64 i'8), (12, .slice a_p'12 p'12.length c_p'12), (13, .slice a_q'13 q'13.length c_q'13), (17, .int .i64 k'17), (18, .int .i64 j'18)]) [(1, .slice a_list'1 list'1.length c_list'1), (5, .pointer (some ⟨b_c'5b, 0, none⟩)), (7, .int .i64 next'7), (8, .int .i64 i'8), (12, .slice a_p'12 p'12.length c_p'12), (13, .slice a_q'13 q'13.length c_q'13), (17, .int .i64 k'17), (18, .int .i64 j'18), (134, .bool (decide (k'17 < (q'13.length : Int))))] (by kernel_rfl) (by kernel_rfl) (fun _ hx => by cases hx) (fun w hT _ => by kernel_rfl) fun a12 hs13 hd14 hS15 => ?_
  by_cases hb16 : k'17 < (q'13.length : Int)
  rotate_left
  · rw [if_neg hb16] at hr
    rw [(decide_eq_false hb16)] at hs13
    have hs49 := hs13.kept [1, 5, 7, 8, 12, 13, 17, 18, 134] [(1, .slice a_list'1 list'1.length c_list'1), (5, .pointer (some ⟨b_c'5b, 0, none⟩)), (7, .int .i64 next'7), (8, .int .i64 i'8), (12, .slice a_p'12 p'12.length c_p'12), (13, .slice a_q'13 q'13.length c_q'13), (17, .int .i64 k'17), (18, .int .i64 j'18), (134, .bool false)] (by kernel_rfl)
    refine dr_q (fuel := 0) [5, 6, 7, 8, 9, 10, 11, 12, 13, 14] [1, 5, 7, 8, 12, 13, 17, 18, 144] [] hs49 hd14 ⟨hst10, fun _ hx => by cases hx⟩ (by kernel_rfl) (by kernel_rfl) ([(144, .bool false), (143, undef), (142, undef), (141, undef), (140, undef), (139, undef), (138, undef), (137, undef), (136, undef), (135, undef)] ++ [(1, .slice a_list'1 list'1.length c_list'1), (5, .pointer (some ⟨b_c'5b, 0, none⟩)), (7, .int .i64 next'7), (8, .int .i64 i'8), (12, .slice a_p'12 p'12.length c_p'12), (13, .slice a_q'13 q'13.length c_q'13), (17, .int .i64 k'17), (18, .int .i64 j'18), (134, .bool false)]) [(1, .slice a_list'1 list'1.length c_list'1), (5, .pointer (some ⟨b_c'5b, 0, none⟩)), (7, .int .i64 next'7), (8, .int .i64 i'8), (12, .slice a_p'12 p'12.length c_p'12), (13, .slice a_q'13 q'13.length c_q'13), (17, .int .i64 k'17), (18, .int .i64 j'18), (144, .bool false)] (by kernel_rfl) (by kernel_rfl) (fun _ hx => by cases hx) (fun w hT _ => by kernel_rfl) fun a50 hs51 hd52 hS53 => ?_
    refine dr_done (by kernel_rfl) ?_
    have hs54 := hs51.kept [1, 5, 7, 8, 12, 13, 17, 18, 144] [(1, .slice a_list'1 list'1.length c_list'1), (5, .pointer (some ⟨b_c'5b, 0, none⟩)), (7, .int .i64 next'7), (8, .int .i64 i'8), (12, .slice a_p'12 p'12.length c_p'12), (13, .slice a_q'13 q'13.length c_q'13), (17, .int .i64 k'17), (18, .int .i64 j'18), (144, .bool false)] (by kernel_rfl)
    exact f5_j9_ok hbf hbk h_list'1 h_c'5b h_next'7 h_i'8 h_p'12 h_q'13  hX hr hm0 hst10 hs54 h_k'17 h_j'18
  rw [if_pos hb16] at hr
  rw [(decide_eq_true hb16)] at hs13
  have hs17 := hs13.kept [1, 5, 7, 8, 12, 13, 17, 18, 134] [(1, .slice a_list'1 list'1.length c_list'1), (5, .pointer (some ⟨b_c'5b, 0, none⟩)), (7, .int .i64 next'7), (8, .int .i64 i'8), (12, .slice a_p'12 p'12.length c_p'12), (13, .slice a_q'13 q'13.length c_q'13), (17, .int .i64 k'17), (18, .int .i64 j'18), (134, .bool true)] (by kernel_rfl)
  refine dr_q (fuel := 8) [5, 6] [1, 5, 7, 8, 12, 13, 17, 18, 134, 135, 136] [] hs17 hd14 ⟨hst10, fun _ hx => by cases hx⟩ (by kernel_rfl) (by kernel_rfl) ([(136, .int .i64 k'17), (135, .slice a_q'13 q'13.length c_q'13)] ++ [(1, .slice a_list'1 list'1.length c_list'1), (5, .pointer (some ⟨b_c'5b, 0, none⟩)), (7, .int .i64 next'7), (8, .int .i64 i'8), (12, .slice a_p'12 p'12.length c_p'12), (13, .slice a_q'13 q'13.length c_q'13), (17, .int .i64 k'17), (18, .int .i64 j'18), (134, .bool true)]) [(1, .slice a_list'1 list'1.length c_list'1), (5, .pointer (some ⟨b_c'5b, 0, none⟩)), (7, .int .i64 next'7), (8, .int .i64 i'8), (12, .slice a_p'12 p'12.length c_p'12), (13, .slice a_q'13 q'13.length c_q'13), (17, .int .i64 k'17), (18, .int .i64 j'18), (134, .bool true), (135, .slice a_q'13 q'13.length c_q'13), (136, .int .i64 k'17)] (by kernel_rfl) (by kernel_rfl) (fun _ hx => by cases hx) (fun w hT _ => by kernel_rfl) fun a18 hs19 hd20 hS21 => ?_
  obtain ⟨x23, hx23, hr⟩ := ofO_el hr
  obtain ⟨ad23, c23, hC23, hR23, hX23, hW23⟩ := own_ix (h_q'13.mono hm0) hx23
  obtain ⟨he23, hf23⟩ := kInt_open hR23
  refine dr_vp (fuel := 7) 7 137 (.pointer (some ad23)) [] hs19 hd20 ⟨hst10, fun _ hx => by cases hx⟩ (by kernel_rfl) (by kernel_rfl) (by kernel_rfl) (fun _ hx => by cases hx) (by kernel_rfl) (fun w hT hF => hX23 (P := Try.prog) (w := w) (by kernel_rfl)) fun a24 hs25 hd22 hS26 => ?_
  refine dr_vp (fuel := 6) 8 138 (.int .i64 x23) [] hs25 hd22 ⟨hst10, fun _ hx => by cases hx⟩ (by kernel_rfl) (by kernel_rfl) (by kernel_rfl) (fun _ hx => by cases hx) (by kernel_rfl) (fun w hT hF => ld1_run (P := Try.prog) (ad := ad23) (by kernel_rfl) (ocell0 (own_conv hC23 he23 (W.St.front [_, _] hT)) (Nat.le_of_ble_eq_true rfl))) fun a28 hs29 hd27 hS30 => ?_
  refine dr_q (fuel := 4) [9, 10] [1, 5, 7, 8, 12, 13, 17, 18, 134, 138, 139, 140] [] hs29 hd27 ⟨hst10, fun _ hx => by cases hx⟩ (by kernel_rfl) (by kernel_rfl) ([(140, .int .i64 j'18), (139, .slice a_p'12 p'12.length c_p'12)] ++ ((138, .int .i64 x23) :: ((137, .pointer (some ad23)) :: [(1, .slice a_list'1 list'1.length c_list'1), (5, .pointer (some ⟨b_c'5b, 0, none⟩)), (7, .int .i64 next'7), (8, .int .i64 i'8), (12, .slice a_p'12 p'12.length c_p'12), (13, .slice a_q'13 q'13.length c_q'13), (17, .int .i64 k'17), (18, .int .i64 j'18), (134, .bool true), (135, .slice a_q'13 q'13.length c_q'13), (136, .int .i64 k'17)]))) [(1, .slice a_list'1 list'1.length c_list'1), (5, .pointer (some ⟨b_c'5b, 0, none⟩)), (7, .int .i64 next'7), (8, .int .i64 i'8), (12, .slice a_p'12 p'12.length c_p'12), (13, .slice a_q'13 q'13.length c_q'13), (17, .int .i64 k'17), (18, .int .i64 j'18), (134, .bool true), (138, .int .i64 x23), (139, .slice a_p'12 p'12.length c_p'12), (140, .int .i64 j'18)] (by kernel_rfl) (by kernel_rfl) (fun _ hx => by cases hx) (fun w hT _ => by kernel_rfl) fun a31 hs32 hd33 hS34 => ?_
  obtain ⟨x36, hx36, hr⟩ := ofO_el hr
  obtain ⟨ad36, c36, hC36, hR36, hX36, hW36⟩ := own_ix (h_p'12.mono hm0) hx36
  obtain ⟨he36, hf36⟩ := kInt_open hR36
  refine dr_vp (fuel := 3) 11 141 (.pointer (some ad36)) [] hs32 hd33 ⟨hst10, fun _ hx => by cases hx⟩ (by kernel_rfl) (by kernel_rfl) (by kernel_rfl) (fun _ hx => by cases hx) (by kernel_rfl) (fun w hT hF => hX36 (P := Try.prog) (w := w) (by kernel_rfl)) fun a37 hs38 hd35 hS39 => ?_
  refine dr_vp (fuel := 2) 12 142 (.int .i64 x36) [] hs38 hd35 ⟨hst10, fun _ hx => by cases hx⟩ (by kernel_rfl) (by kernel_rfl) (by kernel_rfl) (fun _ hx => by cases hx) (by kernel_rfl) (fun w hT hF => ld1_run (P := Try.prog) (ad := ad36) (by kernel_rfl) (ocell0 (own_conv hC36 he36 (W.St.front [_] hT)) (Nat.le_of_ble_eq_true rfl))) fun a41 hs42 hd40 hS43 => ?_
  refine dr_q (fuel := 0) [13, 14] [1, 5, 7, 8, 12, 13, 17, 18, 144] [] hs42 hd40 ⟨hst10, fun _ hx => by cases hx⟩ (by kernel_rfl) (by kernel_rfl) ([(144, .bool (x23 == x36)), (143, .bool (x23 == x36))] ++ ((142, .int .i64 x36) :: ((141, .pointer (some ad36)) :: [(1, .slice a_list'1 list'1.length c_list'1), (5, .pointer (some ⟨b_c'5b, 0, none⟩)), (7, .int .i64 next'7), (8, .int .i64 i'8), (12, .slice a_p'12 p'12.length c_p'12), (13, .slice a_q'13 q'13.length c_q'13), (17, .int .i64 k'17), (18, .int .i64 j'18), (134, .bool true), (138, .int .i64 x23), (139, .slice a_p'12 p'12.length c_p'12), (140, .int .i64 j'18)]))) [(1, .slice a_list'1 list'1.length c_list'1), (5, .pointer (some ⟨b_c'5b, 0, none⟩)), (7, .int .i64 next'7), (8, .int .i64 i'8), (12, .slice a_p'12 p'12.length c_p'12), (13, .slice a_q'13 q'13.length c_q'13), (17, .int .i64 k'17), (18, .int .i64 j'18), (144, .bool (x23 == x36))] (by kernel_rfl) (by kernel_rfl) (fun _ hx => by cases hx) (fun w hT _ => by kernel_rfl) fun a44 hs45 hd46 hS47 => ?_
  refine dr_done (by kernel_rfl) ?_
  have hs48 := hs45.kept [1, 5, 7, 8, 12, 13, 17, 18, 144] [(1, .slice a_list'1 list'1.length c_list'1), (5, .pointer (some ⟨b_c'5b, 0, none⟩)), (7, .int .i64 next'7), (8, .int .i64 i'8), (12, .slice a_p'12 p'12.length c_p'12), (13, .slice a_q'13 q'13.length c_q'13), (17, .int .i64 k'17), (18, .int .i64 j'18), (144, .bool (x23 == x36))] (by kernel_rfl)
  exact f5_j9_ok hbf hbk h_list'1 h_c'5b h_next'7 h_i'8 h_p'12 h_q'13  hX hr hm0 hst10 hs48 h_k'17 h_j'18
def f5_l6_Yk1 (z : Base) (m0 : Mem) (G : List Grp) (b : Frame) (cs : List Frame) (R : Ending → World → Prop) (a_list'1 : Option Addr) (c_list'1 : Nat) (b_c'5b : Nat) (I_c'5b : Grp) (a_p'12 : Option Addr) (c_p'12 : Nat) (I_p'12 : Grp) (a_q'13 : Option Addr) (c_q'13 : Nat) (I_q'13 : Grp) (list'1 : (List S40)) (c'5b : S62) (next'7 : Int) (i'8 : Int) (p'12 : (List Int)) (q'13 : (List Int)) (k'17 : Int) : Prop := ∀ {m : Mem} {w : World} {a : Act} , m0.le m → W.St z w m (I_c'5b :: I_q'13 :: G) → Has 151 a [(1, .slice a_list'1 list'1.length c_list'1), (5, .pointer (some ⟨b_c'5b, 0, none⟩)), (7, .int .i64 next'7), (8, .int .i64 i'8), (13, .slice a_q'13 q'13.length c_q'13), (17, .int .i64 k'17)] → (InR .i64 k'17) → Reach Try.prog b cs R [.code (sub [1, 1, 1, 1, 1, 0, 1, 0, 0, 1, 0, 0, 1, 1, 1, 1, 1, 1, 1] f5_c), .inBlock 1, .code (sub [1, 1, 1, 1, 1, 0, 1, 0, 0, 1, 1] f5_c), .inLoop (sub [1, 1, 1, 1, 1, 0, 1, 0, 0] f5_c), .inBlock 0, .code (sub [1, 1, 1, 1, 1, 1] f5_c)] a w
def f5_j7_Y (z : Base) (m0 : Mem) (G : List Grp) (b : Frame) (cs : List Frame) (R : Ending → World → Prop) (a_list'1 : Option Addr) (c_list'1 : Nat) (b_c'5b : Nat) (I_c'5b : Grp) (a_p'12 : Option Addr) (c_p'12 : Nat) (I_p'12 : Grp) (a_q'13 : Option Addr) (c_q'13 : Nat) (I_q'13 : Grp) (list'1 : (List S40)) (c'5b : S62) (next'7 : Int) (i'8 : Int) (p'12 : (List Int)) (q'13 : (List Int)) (k'17 : Int) (j'18 : Int) : Prop := ∀ {m : Mem} {w : World} {a : Act} , m0.le m → W.St z w m (I_c'5b :: I_p'12 :: I_q'13 :: G) → Has 151 a [(1, .slice a_list'1 list'1.length c_list'1), (5, .pointer (some ⟨b_c'5b, 0, none⟩)), (7, .int .i64 next'7), (8, .int .i64 i'8), (12, .slice a_p'12 p'12.length c_p'12), (13, .slice a_q'13 q'13.length c_q'13), (17, .int .i64 k'17), (18, .int .i64 j'18)] → (InR .i64 k'17) → (InR .i64 j'18) → Reach Try.prog b cs R [.code (sub [1, 1, 1, 1, 1, 0, 1, 0, 0, 1, 0, 0, 1, 1, 1, 1, 1, 1, 0, 1, 0, 0, 0] f5_c), .code (sub [1, 1, 1, 1, 1, 0, 1, 0, 0, 1, 0, 0, 1, 1, 1, 1, 1, 1, 0, 1, 0, 0, 1] f5_c), .inLoop (sub [1, 1, 1, 1, 1, 0, 1, 0, 0, 1, 0, 0, 1, 1, 1, 1, 1, 1, 0, 1, 0, 0] f5_c), .inBlock 2, .code (sub [1, 1, 1, 1, 1, 0, 1, 0, 0, 1, 0, 0, 1, 1, 1, 1, 1, 1, 1] f5_c), .inBlock 1, .code (sub [1, 1, 1, 1, 1, 0, 1, 0, 0, 1, 1] f5_c), .inLoop (sub [1, 1, 1, 1, 1, 0, 1, 0, 0] f5_c), .inBlock 0, .code (sub [1, 1, 1, 1, 1, 1] f5_c)] a w
def f5_j7 (list'1 : (List S40)) (c'5b : S62) (next'7 : Int) (i'8 : Int) (p'12 : (List Int)) (q'13 : (List Int)) (Q : Bool → Prop) (X : Int → Int → Prop) (k1 : Int → Prop) (k'17 : Int) (j'18 : Int) : Prop := if j'18 < (p'12.length : Int) then (ofO (ix p'12 j'18) fun x14 => if x14 < (0 : Int) then (f5_j8 list'1 c'5b next'7 i'8 p'12 q'13 Q X k'17 j'18 true) else (ofO (ix p'12 j'18) fun x39 => if x39 ≥ next'7 then (f5_j8 list'1 c'5b next'7 i'8 p'12 q'13 Q X k'17 j'18 true) else (if j'18 > (0 : Int) then (ofO (ix p'12 (w64 (j'18 - (1 : Int)))) fun x70 => ofO (ix p'12 j'18) fun x83 => f5_j8 list'1 c'5b next'7 i'8 p'12 q'13 Q X k'17 j'18 (decide (x70 ≥ x83))) else (f5_j8 list'1 c'5b next'7 i'8 p'12 q'13 Q X k'17 j'18 false)))) else (k1 k'17)
theorem f5_j7_ok {z : Base} {m0 : Mem} {G : List Grp} {b : Frame} {cs : List Frame} {R : Ending → World → Prop} {a_list'1 : Option Addr} {c_list'1 : Nat} {b_c'5b : Nat} {I_c'5b : Grp} {a_p'12 : Option Addr} {c_p'12 : Nat} {I_p'12 : Grp} {a_q'13 : Option Addr} {c_q'13 : Nat} {I_q'13 : Grp} {list'1 : (List S40)} {c'5b : S62} {next'7 : Int} {i'8 : Int} {p'12 : (List Int)} {q'13 : (List Int)} {Q : Bool → Prop} {X : Int → Int → Prop} {k1 : Int → Prop} (hbf : b.fn = 5) (hbk : b.kind = .normal) (h_list'1 : Sl k40 48 m0 a_list'1 c_list'1 list'1) (h_c'5b : OwnS62 m0 b_c'5b I_c'5b c'5b) (h_next'7 : InR .i64 next'7) (h_i'8 : InR .i64 i'8) (h_p'12 : OwnSl (kInt .i64) 8 3 m0 a_p'12 c_p'12 I_p'12 p'12) (h_q'13 : OwnSl (kInt .i64) 8 3 m0 a_q'13 c_q'13 I_q'13 q'13)  (hQ : ∀ {r : Bool}, Q r → f5_YR z m0 G R  r) (hX : ∀ {k'17 : Int} {j'18 : Int}, X k'17 j'18 → f5_l6_Y z m0 G b cs R a_list'1 c_list'1 b_c'5b I_c'5b a_p'12 c_p'12 I_p'12 a_q'13 c_q'13 I_q'13 list'1 c'5b next'7 i'8 p'12 q'13 k'17 j'18) (hk1 : ∀ {k'17 : Int}, k1 k'17 → f5_l6_Yk1 z m0 G b cs R a_list'1 c_list'1 b_c'5b I_c'5b a_p'12 c_p'12 I_p'12 a_q'13 c_q'13 I_q'13 list'1 c'5b next'7 i'8 p'12 q'13 k'17) : ∀ {k'17 : Int} {j'18 : Int}, f5_j7 list'1 c'5b next'7 i'8 p'12 q'13 Q X k1 k'17 j'18 → f5_j7_Y z m0 G b cs R a_list'1 c_list'1 b_c'5b I_c'5b a_p'12 c_p'12 I_p'12 a_q'13 c_q'13 I_q'13 list'1 c'5b next'7 i'8 p'12 q'13 k'17 j'18 := by
  intro k'17 j'18 hr m w a0  hm0 hst hs0 h_k'17 h_j'18
  unfold f5_j7 at hr
  refine to_seq (sub [1, 1, 1, 1, 1, 0, 1, 0, 0, 1, 0, 0, 1, 1, 1, 1, 1, 1, 0, 1, 0, 0, 0, 0] f5_c) (sub [1, 1, 1, 1, 1, 0, 1, 0, 0, 1, 0, 0, 1, 1, 1, 1, 1, 1, 0, 1, 0, 0, 0, 1] f5_c) (by kernel_rfl) ?_
  refine to_nd 21 4 (rops (sub [1, 1, 1, 1, 1, 0, 1, 0, 0, 1, 0, 0, 1, 1, 1, 1, 1, 1, 0, 1, 0, 0, 0, 0] f5_c)) (by kernel_rfl) (by kernel_rfl) ?_
  refine nd_q (c := 0) 4 [1, 5, 7, 8, 12, 13, 17, 18, 98] hs0 [(1, .slice a_list'1 list'1.length c_list'1), (5, .pointer (some ⟨b_c'5b, 0, none⟩)), (7, .int .i64 next'7), (8, .int .i64 i'8), (12, .slice a_p'12 p'12.length c_p'12), (13, .slice a_q'13 q'13.length c_q'13), (17, .int .i64 k'17), (18, .int .i64 j'18), (98, .bool (decide (j'18 < (p'12.length : Int))))] (by kernel_rfl) fun a1 hs2 => ?_
  refine nd_done ?_
  by_cases hb3 : j'18 < (p'12.length : Int)
  rotate_left
  · rw [if_neg hb3] at hr
    rw [(decide_eq_false hb3)] at hs2
    refine to_else (.tmp 98) (sub [1, 1, 1, 1, 1, 0, 1, 0, 0, 1, 0, 0, 1, 1, 1, 1, 1, 1, 0, 1, 0, 0, 0, 1, 0] f5_c) (sub [1, 1, 1, 1, 1, 0, 1, 0, 0, 1, 0, 0, 1, 1, 1, 1, 1, 1, 0, 1, 0, 0, 0, 1, 1] f5_c) (by kernel_rfl) hs2 (by kernel_rfl) ?_
    refine to_exit 2 (by kernel_rfl) [.code (sub [1, 1, 1, 1, 1, 0, 1, 0, 0, 1, 0, 0, 1, 1, 1, 1, 1, 1, 1] f5_c), .inBlock 1, .code (sub [1, 1, 1, 1, 1, 0, 1, 0, 0, 1, 1] f5_c), .inLoop (sub [1, 1, 1, 1, 1, 0, 1, 0, 0] f5_c), .inBlock 0, .code (sub [1, 1, 1, 1, 1, 1] f5_c)] rfl ?_
    have hst102 := W.St.drop [_] hst
    have hs103 := hs2.kept [1, 5, 7, 8, 13, 17] [(1, .slice a_list'1 list'1.length c_list'1), (5, .pointer (some ⟨b_c'5b, 0, none⟩)), (7, .int .i64 next'7), (8, .int .i64 i'8), (13, .slice a_q'13 q'13.length c_q'13), (17, .int .i64 k'17)] (by kernel_rfl)
    exact hk1 hr hm0 hst102 hs103 h_k'17
  rw [if_pos hb3] at hr
  rw [(decide_eq_true hb3)] at hs2
  refine to_then (.tmp 98) (sub [1, 1, 1, 1, 1, 0, 1, 0, 0, 1, 0, 0, 1, 1, 1, 1, 1, 1, 0, 1, 0, 0, 0, 1, 0] f5_c) (sub [1, 1, 1, 1, 1, 0, 1, 0, 0, 1, 0, 0, 1, 1, 1, 1, 1, 1, 0, 1, 0, 0, 0, 1, 1] f5_c) (by kernel_rfl) hs2 (by kernel_rfl) ?_
  refine to_skip (by kernel_rfl) ?_
  refine to_seq (sub [1, 1, 1, 1, 1, 0, 1, 0, 0, 1, 0, 0, 1, 1, 1, 1, 1, 1, 0, 1, 0, 0, 1, 0] f5_c) (sub [1, 1, 1, 1, 1, 0, 1, 0, 0, 1, 0, 0, 1, 1, 1, 1, 1, 1, 0, 1, 0, 0, 1, 1] f5_c) (by kernel_rfl) ?_
  refine to_block 3 (sub [1, 1, 1, 1, 1, 0, 1, 0, 0, 1, 0, 0, 1, 1, 1, 1, 1, 1, 0, 1, 0, 0, 1, 0, 0] f5_c) (by kernel_rfl) ?_
  refine to_seq (sub [1, 1, 1, 1, 1, 0, 1, 0, 0, 1, 0, 0, 1, 1, 1, 1, 1, 1, 0, 1, 0, 0, 1, 0, 0, 0] f5_c) (sub [1, 1, 1, 1, 1, 0, 1, 0, 0, 1, 0, 0, 1, 1, 1, 1, 1, 1, 0, 1, 0, 0, 1, 0, 0, 1] f5_c) (by kernel_rfl) ?_
  refine to_seq (sub [1, 1, 1, 1, 1, 0, 1, 0, 0, 1, 0, 0, 1, 1, 1, 1, 1, 1, 0, 1, 0, 0, 1, 0, 0, 0, 0] f5_c) (sub [1, 1, 1, 1, 1, 0, 1, 0, 0, 1, 0, 0, 1, 1, 1, 1, 1, 1, 0, 1, 0, 0, 1, 0, 0, 0, 1] f5_c) (by kernel_rfl) ?_
  have hs4 := hs2.kept [1, 5, 7, 8, 12, 13, 17, 18] [(1, .slice a_list'1 list'1.length c_list'1), (5, .pointer (some ⟨b_c'5b, 0, none⟩)), (7, .int .i64 next'7), (8, .int .i64 i'8), (12, .slice a_p'12 p'12.length c_p'12), (13, .slice a_q'13 q'13.length c_q'13), (17, .int .i64 k'17), (18, .int .i64 j'18)] (by kernel_rfl)
  refine to_dr 23 29 (rops (sub [1, 1, 1, 1, 1, 0, 1, 0, 0, 1, 0, 0, 1, 1, 1, 1, 1, 1, 0, 1, 0, 0, 1, 0, 0, 0, 0] f5_c)) (by kernel_rfl) (by kernel_rfl) (by kernel_rfl) [] (fun w => Go.Proofs.Ytcnlbnccghjeaaa.W.St z w m (I_c'5b :: I_p'12 :: I_q'13 :: G)) (fun _ _ => True) fun hd5 => ?_
  have hst7 := hst.drawn (w.drawn + 1)
  generalize hw8 : ({ w with drawn := w.drawn + 1 } : World) = w6 at hst7 ⊢
  clear hw8
  refine dr_q (fuel := 27) [0, 1] [1, 5, 7, 8, 12, 13, 17, 18, 101, 102] [] hs4 hd5 ⟨hst7, fun _ hx => by cases hx⟩ (by kernel_rfl) (by kernel_rfl) ([(102, .int .i64 j'18), (101, .slice a_p'12 p'12.length c_p'12)] ++ [(1, .slice a_list'1 list'1.length c_list'1), (5, .pointer (some ⟨b_c'5b, 0, none⟩)), (7, .int .i64 next'7), (8, .int .i64 i'8), (12, .slice a_p'12 p'12.length c_p'12), (13, .slice a_q'13 q'13.length c_q'13), (17, .int .i64 k'17), (18, .int .i64 j'18)]) [(1, .slice a_list'1 list'1.length c_list'1), (5, .pointer (some ⟨b_c'5b, 0, none⟩)), (7, .int .i64 next'7), (8, .int .i64 i'8), (12, .slice a_p'12 p'12.length c_p'12), (13, .slice a_q'13 q'13.length c_q'13), (17, .int .i64 k'17), (18, .int .i64 j'18), (101, .slice a_p'12 p'12.length c_p'12), (102, .int .i64 j'18)] (by kernel_rfl) (by kernel_rfl) (fun _ hx => by cases hx) (fun w hT _ => by kernel_rfl) fun a9 hs10 hd11 hS12 => ?_
  obtain ⟨x14, hx14, hr⟩ := ofO_el hr
  obtain ⟨ad14, c14, hC14, hR14, hX14, hW14⟩ := own_ix (h_p'12.mono hm0) hx14
  obtain ⟨he14, hf14⟩ := kInt_open hR14
  refine dr_vp (fuel := 26) 2 103 (.pointer (some ad14)) [] hs10 hd11 ⟨hst7, fun _ hx => by cases hx⟩ (by kernel_rfl) (by kernel_rfl) (by kernel_rfl) (fun _ hx => by cases hx) (by kernel_rfl) (fun w hT hF => hX14 (P := Try.prog) (w := w) (by kernel_rfl)) fun a15 hs16 hd13 hS17 => ?_
  refine dr_vp (fuel := 25) 3 104 (.int .i64 x14) [] hs16 hd13 ⟨hst7, fun _ hx => by cases hx⟩ (by kernel_rfl) (by kernel_rfl) (by kernel_rfl) (fun _ hx => by cases hx) (by kernel_rfl) (fun w hT hF => ld1_run (P := Try.prog) (ad := ad14) (by kernel_rfl) (ocell0 (own_conv hC14 he14 (W.St.front [_] hT)) (Nat.le_of_ble_eq_true rfl))) fun a19 hs20 hd18 hS21 => ?_
  refine dr_q (fuel := 23) [4, 5] [1, 5, 7, 8, 12, 13, 17, 18, 106] [] hs20 hd18 ⟨hst7, fun _ hx => by cases hx⟩ (by kernel_rfl) (by kernel_rfl) ([(106, .bool (decide (x14 < (0 : Int)))), (105, .bool (decide (x14 < (0 : Int))))] ++ ((104, .int .i64 x14) :: ((103, .pointer (some ad14)) :: [(1, .slice a_list'1 list'1.length c_list'1), (5, .pointer (some ⟨b_c'5b, 0, none⟩)), (7, .int .i64 next'7), (8, .int .i64 i'8), (12, .slice a_p'12 p'12.length c_p'12), (13, .slice a_q'13 q'13.length c_q'13), (17, .int .i64 k'17), (18, .int .i64 j'18), (101, .slice a_p'12 p'12.length c_p'12), (102, .int .i64 j'18)]))) [(1, .slice a_list'1 list'1.length c_list'1), (5, .pointer (some ⟨b_c'5b, 0, none⟩)), (7, .int .i64 next'7), (8, .int .i64 i'8), (12, .slice a_p'12 p'12.length c_p'12), (13, .slice a_q'13 q'13.length c_q'13), (17, .int .i64 k'17), (18, .int .i64 j'18), (106, .bool (decide (x14 < (0 : Int))))] (by kernel_rfl) (by kernel_rfl) (fun _ hx => by cases hx) (fun w hT _ => by kernel_rfl) fun a22 hs23 hd24 hS25 => ?_
  by_cases hb26 : x14 < (0 : Int)
  · rw [if_pos hb26] at hr
    rw [(decide_eq_true hb26)] at hs23
    have hs27 := hs23.kept [1, 5, 7, 8, 12, 13, 17, 18, 106] [(1, .slice a_list'1 list'1.length c_list'1), (5, .pointer (some ⟨b_c'5b, 0, none⟩)), (7, .int .i64 next'7), (8, .int .i64 i'8), (12, .slice a_p'12 p'12.length c_p'12), (13, .slice a_q'13 q'13.length c_q'13), (17, .int .i64 k'17), (18, .int .i64 j'18), (106, .bool true)] (by kernel_rfl)
    refine dr_q (fuel := 0) [6, 7, 8, 9, 10, 11, 12, 13, 14, 15, 16, 17, 18, 19, 20, 21, 22, 23, 24, 25, 26, 27, 28] [1, 5, 7, 8, 12, 13, 17, 18, 129] [] hs27 hd24 ⟨hst7, fun _ hx => by cases hx⟩ (by kernel_rfl) (by kernel_rfl) ([(129, .bool true), (128, undef), (127, undef), (126, undef), (125, undef), (124, undef), (123, undef), (122, undef), (121, undef), (120, undef), (119, undef), (118, undef), (117, undef), (116, undef), (115, undef), (114, .bool true), (113, .bool true), (112, undef), (111, undef), (110, undef), (109, undef), (108, undef), (107, undef)] ++ [(1, .slice a_list'1 list'1.length c_list'1), (5, .pointer (some ⟨b_c'5b, 0, none⟩)), (7, .int .i64 next'7), (8, .int .i64 i'8), (12, .slice a_p'12 p'12.length c_p'12), (13, .slice a_q'13 q'13.length c_q'13), (17, .int .i64 k'17), (18, .int .i64 j'18), (106, .bool true)]) [(1, .slice a_list'1 list'1.length c_list'1), (5, .pointer (some ⟨b_c'5b, 0, none⟩)), (7, .int .i64 next'7), (8, .int .i64 i'8), (12, .slice a_p'12 p'12.length c_p'12), (13, .slice a_q'13 q'13.length c_q'13), (17, .int .i64 k'17), (18, .int .i64 j'18), (129, .bool true)] (by kernel_rfl) (by kernel_rfl) (fun _ hx => by cases hx) (fun w hT _ => by kernel_rfl) fun a28 hs29 hd30 hS31 => ?_
    refine dr_done (by kernel_rfl) ?_
    have hs32 := hs29.kept [1, 5, 7, 8, 12, 13, 17, 18, 129] [(1, .slice a_list'1 list'1.length c_list'1), (5, .pointer (some ⟨b_c'5b, 0, none⟩)), (7, .int .i64 next'7), (8, .int .i64 i'8), (12, .slice a_p'12 p'12.length c_p'12), (13, .slice a_q'13 q'13.length c_q'13), (17, .int .i64 k'17), (18, .int .i64 j'18), (129, .bool true)] (by kernel_rfl)
    exact f5_j8_ok hbf hbk h_list'1 h_c'5b h_next'7 h_i'8 h_p'12 h_q'13  hQ hX hr hm0 hst7 hs32 h_k'17 h_j'18
  rw [if_neg hb26] at hr
  rw [(decide_eq_false hb26)] at hs23
  have hs33 := hs23.kept [1, 5, 7, 8, 12, 13, 17, 18, 106] [(1, .slice a_list'1 list'1.length c_list'1), (5, .pointer (some ⟨b_c'5b, 0, none⟩)), (7, .int .i64 next'7), (8, .int .i64 i'8), (12, .slice a_p'12 p'12.length c_p'12), (13, .slice a_q'13 q'13.length c_q'13), (17, .int .i64 k'17), (18, .int .i64 j'18), (106, .bool false)] (by kernel_rfl)
  refine dr_q (fuel := 21) [6, 7] [1, 5, 7, 8, 12, 13, 17, 18, 106, 107, 108] [] hs33 hd24 ⟨hst7, fun _ hx => by cases hx⟩ (by kernel_rfl) (by kernel_rfl) ([(108, .int .i64 j'18), (107, .slice a_p'12 p'12.length c_p'12)] ++ [(1, .slice a_list'1 list'1.length c_list'1), (5, .pointer (some ⟨b_c'5b, 0, none⟩)), (7, .int .i64 next'7), (8, .int .i64 i'8), (12, .slice a_p'12 p'12.length c_p'12), (13, .slice a_q'13 q'13.length c_q'13), (17, .int .i64 k'17), (18, .int .i64 j'18), (106, .bool false)]) [(1, .slice a_list'1 list'1.length c_list'1), (5, .pointer (some ⟨b_c'5b, 0, none⟩)), (7, .int .i64 next'7), (8, .int .i64 i'8), (12, .slice a_p'12 p'12.length c_p'12), (13, .slice a_q'13 q'13.length c_q'13), (17, .int .i64 k'17), (18, .int .i64 j'18), (106, .bool false), (107, .slice a_p'12 p'12.length c_p'12), (108, .int .i64 j'18)] (by kernel_rfl) (by kernel_rfl) (fun _ hx => by cases hx) (fun w hT _ => by kernel_rfl) fun a34 hs35 hd36 hS37 => ?_
  obtain ⟨x39, hx39, hr⟩ := ofO_el hr
  obtain ⟨ad39, c39, hC39, hR39, hX39, hW39⟩ := own_ix (h_p'12.mono hm0) hx39
  obtain ⟨he39, hf39⟩ := kInt_open hR39
  refine dr_vp (fuel := 20) 8 109 (.pointer (some ad39)) [] hs35 hd36 ⟨hst7, fun _ hx => by cases hx⟩ (by kernel_rfl) (by kernel_rfl) (by kernel_rfl) (fun _ hx => by cases hx) (by kernel_rfl) (fun w hT hF => hX39 (P := Try.prog) (w := w) (by kernel_rfl)) fun a40 hs41 hd38 hS42 => ?_
  refine dr_vp (fuel := 19) 9 110 (.int .i64 x39) [] hs41 hd38 ⟨hst7, fun _ hx => by cases hx⟩ (by kernel_rfl) (by kernel_rfl) (by kernel_rfl) (fun _ hx => by cases hx) (by kernel_rfl) (fun w hT hF => ld1_run (P := Try.prog) (ad := ad39) (by kernel_rfl) (ocell0 (own_conv hC39 he39 (W.St.front [_] hT)) (Nat.le_of_ble_eq_true rfl))) fun a44 hs45 hd43 hS46 => ?_
  refine dr_q (fuel := 15) [10, 11, 12, 13] [1, 5, 7, 8, 12, 13, 17, 18, 114] [] hs45 hd43 ⟨hst7, fun _ hx => by cases hx⟩ (by kernel_rfl) (by kernel_rfl) ([(114, .bool (decide (x39 ≥ next'7))), (113, .bool (decide (x39 ≥ next'7))), (112, .bool (decide (x39 ≥ next'7))), (111, .int .i64 next'7)] ++ ((110, .int .i64 x39) :: ((109, .pointer (some ad39)) :: [(1, .slice a_list'1 list'1.length c_list'1), (5, .pointer (some ⟨b_c'5b, 0, none⟩)), (7, .int .i64 next'7), (8, .int .i64 i'8), (12, .slice a_p'12 p'12.length c_p'12), (13, .slice a_q'13 q'13.length c_q'13), (17, .int .i64 k'17), (18, .int .i64 j'18), (106, .bool false), (107, .slice a_p'12 p'12.length c_p'12), (108, .int .i64 j'18)]))) [(1, .slice a_list'1 list'1.length c_list'1), (5, .pointer (some ⟨b_c'5b, 0, none⟩)), (7, .int .i64 next'7), (8, .int .i64 i'8), (12, .slice a_p'12 p'12.length c_p'12), (13, .slice a_q'13 q'13.length c_q'13), (17, .int .i64 k'17), (18, .int .i64 j'18), (114, .bool (decide (x39 ≥ next'7)))] (by kernel_rfl) (by kernel_rfl) (fun _ hx => by cases hx) (fun w hT _ => by kernel_rfl) fun a47 hs48 hd49 hS50 => ?_
  by_cases hb51 : x39 ≥ next'7
  · rw [if_pos hb51] at hr
    rw [(decide_eq_true hb51)] at hs48
    have hs52 := hs48.kept [1, 5, 7, 8, 12, 13, 17, 18, 114] [(1, .slice a_list'1 list'1.length c_list'1), (5, .pointer (some ⟨b_c'5b, 0, none⟩)), (7, .int .i64 next'7), (8, .int .i64 i'8), (12, .slice a_p'12 p'12.length c_p'12), (13, .slice a_q'13 q'13.length c_q'13), (17, .int .i64 k'17), (18, .int .i64 j'18), (114, .bool true)] (by kernel_rfl)
    refine dr_q (fuel := 0) [14, 15, 16, 17, 18, 19, 20, 21, 22, 23, 24, 25, 26, 27, 28] [1, 5, 7, 8, 12, 13, 17, 18, 129] [] hs52 hd49 ⟨hst7, fun _ hx => by cases hx⟩ (by kernel_rfl) (by kernel_rfl) ([(129, .bool true), (128, undef), (127, undef), (126, undef), (125, undef), (124, undef), (123, undef), (122, undef), (121, undef), (120, undef), (119, undef), (118, undef), (117, undef), (116, undef), (115, undef)] ++ [(1, .slice a_list'1 list'1.length c_list'1), (5, .pointer (some ⟨b_c'5b, 0, none⟩)), (7, .int .i64 next'7), (8, .int .i64 i'8), (12, .slice a_p'12 p'12.length c_p'12), (13, .slice a_q'13 q'13.length c_q'13), (17, .int .i64 k'17), (18, .int .i64 j'18), (114, .bool true)]) [(1, .slice a_list'1 list'1.length c_list'1), (5, .pointer (some ⟨b_c'5b, 0, none⟩)), (7, .int .i64 next'7), (8, .int .i64 i'8), (12, .slice a_p'12 p'12.length c_p'12), (13, .slice a_q'13 q'13.length c_q'13), (17, .int .i64 k'17), (18, .int .i64 j'18), (129, .bool true)] (by kernel_rfl) (by kernel_rfl) (fun _ hx => by cases hx) (fun w hT _ => by kernel_rfl) fun a53 hs54 hd55 hS56 => ?_
    refine dr_done (by kernel_rfl) ?_
    have hs57 := hs54.kept [1, 5, 7, 8, 12, 13, 17, 18, 129] [(1, .slice a_list'1 list'1.length c_list'1), (5, .pointer (some ⟨b_c'5b, 0, none⟩)), (7, .int .i64 next'7), (8, .int .i64 i'8), (12, .slice a_p'12 p'12.length c_p'12), (13, .slice a_q'13 q'13.length c_q'13), (17, .int .i64 k'17), (18, .int .i64 j'18), (129, .bool true)] (by kernel_rfl)
    exact f5_j8_ok hbf hbk h_list'1 h_c'5b h_next'7 h_i'8 h_p'12 h_q'13  hQ hX hr hm0 hst7 hs57 h_k'17 h_j'18
  rw [if_neg hb51] at hr
  rw [(decide_eq_false hb51)] at hs48
  have hs58 := hs48.kept [1, 5, 7, 8, 12, 13, 17, 18, 114] [(1, .slice a_list'1 list'1.length c_list'1), (5, .pointer (some ⟨b_c'5b, 0, none⟩)), (7, .int .i64 next'7), (8, .int .i64 i'8), (12, .slice a_p'12 p'12.length c_p'12), (13, .slice a_q'13 q'13.length c_q'13), (17, .int .i64 k'17), (18, .int .i64 j'18), (114, .bool false)] (by kernel_rfl)
  refine dr_q (fuel := 12) [14, 15, 16] [1, 5, 7, 8, 12, 13, 17, 18, 114, 117] [] hs58 hd49 ⟨hst7, fun _ hx => by cases hx⟩ (by kernel_rfl) (by kernel_rfl) ([(117, .bool (decide (j'18 > (0 : Int)))), (116, .bool (decide (j'18 > (0 : Int)))), (115, .int .i64 j'18)] ++ [(1, .slice a_list'1 list'1.length c_list'1), (5, .pointer (some ⟨b_c'5b, 0, none⟩)), (7, .int .i64 next'7), (8, .int .i64 i'8), (12, .slice a_p'12 p'12.length c_p'12), (13, .slice a_q'13 q'13.length c_q'13), (17, .int .i64 k'17), (18, .int .i64 j'18), (114, .bool false)]) [(1, .slice a_list'1 list'1.length c_list'1), (5, .pointer (some ⟨b_c'5b, 0, none⟩)), (7, .int .i64 next'7), (8, .int .i64 i'8), (12, .slice a_p'12 p'12.length c_p'12), (13, .slice a_q'13 q'13.length c_q'13), (17, .int .i64 k'17), (18, .int .i64 j'18), (114, .bool false), (117, .bool (decide (j'18 > (0 : Int))))] (by kernel_rfl) (by kernel_rfl) (fun _ hx => by cases hx) (fun w hT _ => by kernel_rfl) fun a59 hs60 hd61 hS62 => ?_
  by_cases hb63 : j'18 > (0 : Int)
  rotate_left
  · rw [if_neg hb63] at hr
    rw [(decide_eq_false hb63)] at hs60
    have hs96 := hs60.kept [1, 5, 7, 8, 12, 13, 17, 18, 114, 117] [(1, .slice a_list'1 list'1.length c_list'1), (5, .pointer (some ⟨b_c'5b, 0, none⟩)), (7, .int .i64 next'7), (8, .int .i64 i'8), (12, .slice a_p'12 p'12.length c_p'12), (13, .slice a_q'13 q'13.length c_q'13), (17, .int .i64 k'17), (18, .int .i64 j'18), (114, .bool false), (117, .bool false)] (by kernel_rfl)
    refine dr_q (fuel := 0) [17, 18, 19, 20, 21, 22, 23, 24, 25, 26, 27, 28] [1, 5, 7, 8, 12, 13, 17, 18, 129] [] hs96 hd61 ⟨hst7, fun _ hx => by cases hx⟩ (by kernel_rfl) (by kernel_rfl) ([(129, .bool false), (128, .bool false), (127, undef), (126, undef), (125, undef), (124, undef), (123, undef), (122, undef), (121, undef), (120, undef), (119, undef), (118, undef)] ++ [(1, .slice a_list'1 list'1.length c_list'1), (5, .pointer (some ⟨b_c'5b, 0, none⟩)), (7, .int .i64 next'7), (8, .int .i64 i'8), (12, .slice a_p'12 p'12.length c_p'12), (13, .slice a_q'13 q'13.length c_q'13), (17, .int .i64 k'17), (18, .int .i64 j'18), (114, .bool false), (117, .bool false)]) [(1, .slice a_list'1 list'1.length c_list'1), (5, .pointer (some ⟨b_c'5b, 0, none⟩)), (7, .int .i64 next'7), (8, .int .i64 i'8), (12, .slice a_p'12 p'12.length c_p'12), (13, .slice a_q'13 q'13.length c_q'13), (17, .int .i64 k'17), (18, .int .i64 j'18), (129, .bool false)] (by kernel_rfl) (by kernel_rfl) (fun _ hx => by cases hx) (fun w hT _ => by kernel_rfl) fun a97 hs98 hd99 hS100 => ?_
    refine dr_done (by kernel_rfl) ?_
    have hs101 := hs98.kept [1, 5, 7, 8, 12, 13, 17, 18, 129] [(1, .slice a_list'1 list'1.length c_list'1), (5, .pointer (some ⟨b_c'5b, 0, none⟩)), (7, .int .i64 next'7), (8, .int .i64 i'8), (12, .slice a_p'12 p'12.length c_p'12), (13, .slice a_q'13 q'13.length c_q'13), (17, .int .i64 k'17), (18, .int .i64 j'18), (129, .bool false)] (by kernel_rfl)
    exact f5_j8_ok hbf hbk h_list'1 h_c'5b h_next'7 h_i'8 h_p'12 h_q'13  hQ hX hr hm0 hst7 hs101 h_k'17 h_j'18
  rw [if_pos hb63] at hr
  rw [(decide_eq_true hb63)] at hs60
  have hs64 := hs60.kept [1, 5, 7, 8, 12, 13, 17, 18, 114, 117] [(1, .slice a_list'1 list'1.length c_list'1), (5, .pointer (some ⟨b_c'5b, 0, none⟩)), (7, .int .i64 next'7), (8, .int .i64 i'8), (12, .slice a_p'12 p'12.length c_p'12), (13, .slice a_q'13 q'13.length c_q'13), (17, .int .i64 k'17), (18, .int .i64 j'18), (114, .bool false), (117, .bool true)] (by kernel_rfl)
  refine dr_q (fuel := 9) [17, 18, 19] [1, 5, 7, 8, 12, 13, 17, 18, 114, 117, 118, 120] [] hs64 hd61 ⟨hst7, fun _ hx => by cases hx⟩ (by kernel_rfl) (by kernel_rfl) ([(120, .int .i64 (w64 (j'18 - (1 : Int)))), (119, .int .i64 j'18), (118, .slice a_p'12 p'12.length c_p'12)] ++ [(1, .slice a_list'1 list'1.length c_list'1), (5, .pointer (some ⟨b_c'5b, 0, none⟩)), (7, .int .i64 next'7), (8, .int .i64 i'8), (12, .slice a_p'12 p'12.length c_p'12), (13, .slice a_q'13 q'13.length c_q'13), (17, .int .i64 k'17), (18, .int .i64 j'18), (114, .bool false), (117, .bool true)]) [(1, .slice a_list'1 list'1.length c_list'1), (5, .pointer (some ⟨b_c'5b, 0, none⟩)), (7, .int .i64 next'7), (8, .int .i64 i'8), (12, .slice a_p'12 p'12.length c_p'12), (13, .slice a_q'13 q'13.length c_q'13), (17, .int .i64 k'17), (18, .int .i64 j'18), (114, .bool false), (117, .bool true), (118, .slice a_p'12 p'12.length c_p'12), (120, .int .i64 (w64 (j'18 - (1 : Int))))] (by kernel_rfl) (by kernel_rfl) (fun _ hx => by cases hx) (fun w hT _ => by kernel_rfl) fun a65 hs66 hd67 hS68 => ?_
  obtain ⟨x70, hx70, hr⟩ := ofO_el hr
  obtain ⟨ad70, c70, hC70, hR70, hX70, hW70⟩ := own_ix (h_p'12.mono hm0) hx70
  obtain ⟨he70, hf70⟩ := kInt_open hR70
  refine dr_vp (fuel := 8) 20 121 (.pointer (some ad70)) [] hs66 hd67 ⟨hst7, fun _ hx => by cases hx⟩ (by kernel_rfl) (by kernel_rfl) (by kernel_rfl) (fun _ hx => by cases hx) (by kernel_rfl) (fun w hT hF => hX70 (P := Try.prog) (w := w) (by kernel_rfl)) fun a71 hs72 hd69 hS73 => ?_
  refine dr_vp (fuel := 7) 21 122 (.int .i64 x70) [] hs72 hd69 ⟨hst7, fun _ hx => by cases hx⟩ (by kernel_rfl) (by kernel_rfl) (by kernel_rfl) (fun _ hx => by cases hx) (by kernel_rfl) (fun w hT hF => ld1_run (P := Try.prog) (ad := ad70) (by kernel_rfl) (ocell0 (own_conv hC70 he70 (W.St.front [_] hT)) (Nat.le_of_ble_eq_true rfl))) fun a75 hs76 hd74 hS77 => ?_
  refine dr_q (fuel := 5) [22, 23] [1, 5, 7, 8, 12, 13, 17, 18, 114, 117, 122, 123, 124] [] hs76 hd74 ⟨hst7, fun _ hx => by cases hx⟩ (by kernel_rfl) (by kernel_rfl) ([(124, .int .i64 j'18), (123, .slice a_p'12 p'12.length c_p'12)] ++ ((122, .int .i64 x70) :: ((121, .pointer (some ad70)) :: [(1, .slice a_list'1 list'1.length c_list'1), (5, .pointer (some ⟨b_c'5b, 0, none⟩)), (7, .int .i64 next'7), (8, .int .i64 i'8), (12, .slice a_p'12 p'12.length c_p'12), (13, .slice a_q'13 q'13.length c_q'13), (17, .int .i64 k'17), (18, .int .i64 j'18), (114, .bool false), (117, .bool true), (118, .slice a_p'12 p'12.length c_p'12), (120, .int .i64 (w64 (j'18 - (1 : Int))))]))) [(1, .slice a_list'1 list'1.length c_list'1), (5, .pointer (some ⟨b_c'5b, 0, none⟩)), (7, .int .i64 next'7), (8, .int .i64 i'8), (12, .slice a_p'12 p'12.length c_p'12), (13, .slice a_q'13 q'13.length c_q'13), (17, .int .i64 k'17), (18, .int .i64 j'18), (114, .bool false), (117, .bool true), (122, .int .i64 x70), (123, .slice a_p'12 p'12.length c_p'12), (124, .int .i64 j'18)] (by kernel_rfl) (by kernel_rfl) (fun _ hx => by cases hx) (fun w hT _ => by kernel_rfl) fun a78 hs79 hd80 hS81 => ?_
  obtain ⟨x83, hx83, hr⟩ := ofO_el hr
  obtain ⟨ad83, c83, hC83, hR83, hX83, hW83⟩ := own_ix (h_p'12.mono hm0) hx83
  obtain ⟨he83, hf83⟩ := kInt_open hR83
  refine dr_vp (fuel := 4) 24 125 (.pointer (some ad83)) [] hs79 hd80 ⟨hst7, fun _ hx => by cases hx⟩ (by kernel_rfl) (by kernel_rfl) (by kernel_rfl) (fun _ hx => by cases hx) (by kernel_rfl) (fun w hT hF => hX83 (P := Try.prog) (w := w) (by kernel_rfl)) fun a84 hs85 hd82 hS86 => ?_
  refine dr_vp (fuel := 3) 25 126 (.int .i64 x83) [] hs85 hd82 ⟨hst7, fun _ hx => by cases hx⟩ (by kernel_rfl) (by kernel_rfl) (by kernel_rfl) (fun _ hx => by cases hx) (by kernel_rfl) (fun w hT hF => ld1_run (P := Try.prog) (ad := ad83) (by kernel_rfl) (ocell0 (own_conv hC83 he83 (W.St.front [_] hT)) (Nat.le_of_ble_eq_true rfl))) fun a88 hs89 hd87 hS90 => ?_
  refine dr_q (fuel := 0) [26, 27, 28] [1, 5, 7, 8, 12, 13, 17, 18, 129] [] hs89 hd87 ⟨hst7, fun _ hx => by cases hx⟩ (by kernel_rfl) (by kernel_rfl) ([(129, .bool (decide (x70 ≥ x83))), (128, .bool (decide (x70 ≥ x83))), (127, .bool (decide (x70 ≥ x83)))] ++ ((126, .int .i64 x83) :: ((125, .pointer (some ad83)) :: [(1, .slice a_list'1 list'1.length c_list'1), (5, .pointer (some ⟨b_c'5b, 0, none⟩)), (7, .int .i64 next'7), (8, .int .i64 i'8), (12, .slice a_p'12 p'12.length c_p'12), (13, .slice a_q'13 q'13.length c_q'13), (17, .int .i64 k'17), (18, .int .i64 j'18), (114, .bool false), (117, .bool true), (122, .int .i64 x70), (123, .slice a_p'12 p'12.length c_p'12), (124, .int .i64 j'18)]))) [(1, .slice a_list'1 list'1.length c_list'1), (5, .pointer (some ⟨b_c'5b, 0, none⟩)), (7, .int .i64 next'7), (8, .int .i64 i'8), (12, .slice a_p'12 p'12.length c_p'12), (13, .slice a_q'13 q'13.length c_q'13), (17, .int .i64 k'17), (18, .int .i64 j'18), (129, .bool (decide (x70 ≥ x83)))] (by kernel_rfl) (by kernel_rfl) (fun _ hx => by cases hx) (fun w hT _ => by kernel_rfl) fun a91 hs92 hd93 hS94 => ?_
  refine dr_done (by kernel_rfl) ?_
  have hs95 := hs92.kept [1, 5, 7, 8, 12, 13, 17, 18, 129] [(1, .slice a_list'1 list'1.length c_list'1), (5, .pointer (some ⟨b_c'5b, 0, none⟩)), (7, .int .i64 next'7), (8, .int .i64 i'8), (12, .slice a_p'12 p'12.length c_p'12), (13, .slice a_q'13 q'13.length c_q'13), (17, .int .i64 k'17), (18, .int .i64 j'18), (129, .bool (decide (x70 ≥ x83)))] (by kernel_rfl)
  exact f5_j8_ok hbf hbk h_list'1 h_c'5b h_next'7 h_i'8 h_p'12 h_q'13  hQ hX hr hm0 hst7 hs95 h_k'17 h_j'18
def f5_l6_b (list'1 : (List S40)) (c'5b : S62) (next'7 : Int) (i'8 : Int) (p'12 : (List Int)) (q'13 : (List Int)) (k1 : Int → Prop) (Q : Bool → Prop) (X : Int → Int → Prop) (k'17 : Int) (j'18 : Int) : Prop := f5_j7 list'1 c'5b next'7 i'8 p'12 q'13 Q X k1 k'17 j'18
def f5_l6 (list'1 : (List S40)) (c'5b : S62) (next'7 : Int) (i'8 : Int) (p'12 : (List Int)) (q'13 : (List Int)) (k1 : Int → Prop) (Q : Bool → Prop) (k'17 : Int) (j'18 : Int) : Prop := ∀ X : Int → Int → Prop, (∀ {k'17 : Int} {j'18 : Int}, f5_l6_b list'1 c'5b next'7 i'8 p'12 q'13 k1 Q X k'17 j'18 → X k'17 j'18) → X k'17 j'18
theorem f5_l6_ok {z : Base} {m0 : Mem} {G : List Grp} {b : Frame} {cs : List Frame} {R : Ending → World → Prop} {a_list'1 : Option Addr} {c_list'1 : Nat} {b_c'5b : Nat} {I_c'5b : Grp} {a_p'12 : Option Addr} {c_p'12 : Nat} {I_p'12 : Grp} {a_q'13 : Option Addr} {c_q'13 : Nat} {I_q'13 : Grp} {list'1 : (List S40)} {c'5b : S62} {next'7 : Int} {i'8 : Int} {p'12 : (List Int)} {q'13 : (List Int)} {k1 : Int → Prop} {Q : Bool → Prop}  (hbf : b.fn = 5) (hbk : b.kind = .normal) (h_list'1 : Sl k40 48 m0 a_list'1 c_list'1 list'1) (h_c'5b : OwnS62 m0 b_c'5b I_c'5b c'5b) (h_next'7 : InR .i64 next'7) (h_i'8 : InR .i64 i'8) (h_p'12 : OwnSl (kInt .i64) 8 3 m0 a_p'12 c_p'12 I_p'12 p'12) (h_q'13 : OwnSl (kInt .i64) 8 3 m0 a_q'13 c_q'13 I_q'13 q'13)  (hk1 : ∀ {k'17 : Int}, k1 k'17 → f5_l6_Yk1 z m0 G b cs R a_list'1 c_list'1 b_c'5b I_c'5b a_p'12 c_p'12 I_p'12 a_q'13 c_q'13 I_q'13 list'1 c'5b next'7 i'8 p'12 q'13 k'17) (hQ : ∀ {r : Bool}, Q r → f5_YR z m0 G R  r) : ∀ {k'17 : Int} {j'18 : Int}, f5_l6 list'1 c'5b next'7 i'8 p'12 q'13 k1 Q k'17 j'18 → f5_l6_Y z m0 G b cs R a_list'1 c_list'1 b_c'5b I_c'5b a_p'12 c_p'12 I_p'12 a_q'13 c_q'13 I_q'13 list'1 c'5b next'7 i'8 p'12 q'13 k'17 j'18 := by
  intro k'17 j'18 hr
  refine hr (f5_l6_Y z m0 G b cs R a_list'1 c_list'1 b_c'5b I_c'5b a_p'12 c_p'12 I_p'12 a_q'13 c_q'13 I_q'13 list'1 c'5b next'7 i'8 p'12 q'13) ?_
  intro k'17 j'18 hr m w a0  hm0 hst hs0 h_k'17 h_j'18
  have hX : ∀ {k'17 : Int} {j'18 : Int}, f5_l6_Y z m0 G b cs R a_list'1 c_list'1 b_c'5b I_c'5b a_p'12 c_p'12 I_p'12 a_q'13 c_q'13 I_q'13 list'1 c'5b next'7 i'8 p'12 q'13 k'17 j'18 → f5_l6_Y z m0 G b cs R a_list'1 c_list'1 b_c'5b I_c'5b a_p'12 c_p'12 I_p'12 a_q'13 c_q'13 I_q'13 list'1 c'5b next'7 i'8 p'12 q'13 k'17 j'18 := fun h => h
  unfold f5_l6_b at hr
  refine to_seq (sub [1, 1, 1, 1, 1, 0, 1, 0, 0, 1, 0, 0, 1, 1, 1, 1, 1, 1, 0, 1, 0, 0, 0] f5_c) (sub [1, 1, 1, 1, 1, 0, 1, 0, 0, 1, 0, 0, 1, 1, 1, 1, 1, 1, 0, 1, 0, 0, 1] f5_c) (by kernel_rfl) ?_
  have hs1 := hs0.kept [1, 5, 7, 8, 12, 13, 17, 18] [(1, .slice a_list'1 list'1.length c_list'1), (5, .pointer (some ⟨b_c'5b, 0, none⟩)), (7, .int .i64 next'7), (8, .int .i64 i'8), (12, .slice a_p'12 p'12.length c_p'12), (13, .slice a_q'13 q'13.length c_q'13), (17, .int .i64 k'17), (18, .int .i64 j'18)] (by kernel_rfl)
  exact f5_j7_ok hbf hbk h_list'1 h_c'5b h_next'7 h_i'8 h_p'12 h_q'13  hQ hX hk1 hr hm0 hst hs1 h_k'17 h_j'18
def f5_j11_Y (z : Base) (m0 : Mem) (G : List Grp) (b : Frame) (cs : List Frame) (R : Ending → World → Prop) (a_list'1 : Option Addr) (c_list'1 : Nat) (list'1 : (List S40)) (c'5b : S62) (next'7 : Int) (i'8 : Int) (q'13 : (List Int)) (k'17 : Int) : Prop := ∀ {m : Mem} {w : World} {a : Act} {b_c'5b : Nat} {I_c'5b : Grp} {a_q'13 : Option Addr} {c_q'13 : Nat} {I_q'13 : Grp}, m0.le m → W.St z w m (I_c'5b :: I_q'13 :: G) → Has 151 a [(1, .slice a_list'1 list'1.length c_list'1), (5, .pointer (some ⟨b_c'5b, 0, none⟩)), (7, .int .i64 next'7), (8, .int .i64 i'8), (13, .slice a_q'13 q'13.length c_q'13), (17, .int .i64 k'17)] → (OwnS62 m b_c'5b I_c'5b c'5b) → (InR .i64 next'7) → (InR .i64 i'8) → (OwnSl (kInt .i64) 8 3 m a_q'13 c_q'13 I_q'13 q'13) → (InR .i64 k'17) → Reach Try.prog b cs R [.code (sub [1, 1, 1, 1, 1, 0, 1, 0, 0, 1, 0, 0, 1, 1, 1, 1, 1, 1, 1] f5_c), .inBlock 1, .code (sub [1, 1, 1, 1, 1, 0, 1, 0, 0, 1, 1] f5_c), .inLoop (sub [1, 1, 1, 1, 1, 0, 1, 0, 0] f5_c), .inBlock 0, .code (sub [1, 1, 1, 1, 1, 1] f5_c)] a w
def f5_j11 (list'1 : (List S40)) (X : (Option S62) → Int → Int → Prop) (Q : Bool → Prop) (c'5b : S62) (next'7 : Int) (i'8 : Int) (q'13 : (List Int)) (k'17 : Int) : Prop := if k'17 = (q'13.length : Int) then (X (some c'5b) next'7 (w64 (i'8 + (1 : Int)))) else (Q false)
theorem f5_j11_ok {z : Base} {m0 : Mem} {G : List Grp} {b : Frame} {cs : List Frame} {R : Ending → World → Prop} {a_list'1 : Option Addr} {c_list'1 : Nat} {list'1 : (List S40)} {X : (Option S62) → Int → Int → Prop} {Q : Bool → Prop} (hbf : b.fn = 5) (hbk : b.kind = .normal) (h_list'1 : Sl k40 48 m0 a_list'1 c_list'1 list'1)  (hX : ∀ {c'5 : (Option S62)} {next'7 : Int} {i'8 : Int}, X c'5 next'7 i'8 → f5_l2_Y z m0 G b cs R a_list'1 c_list'1 list'1 c'5 next'7 i'8) (hQ : ∀ {r : Bool}, Q r → f5_YR z m0 G R  r) : ∀ {c'5b : S62} {next'7 : Int} {i'8 : Int} {q'13 : (List Int)} {k'17 : Int}, f5_j11 list'1 X Q c'5b next'7 i'8 q'13 k'17 → f5_j11_Y z m0 G b cs R a_list'1 c_list'1 list'1 c'5b next'7 i'8 q'13 k'17 := by
  intro c'5b next'7 i'8 q'13 k'17 hr m w a0 b_c'5b I_c'5b a_q'13 c_q'13 I_q'13 hm0 hst hs0 h_c'5b h_next'7 h_i'8 h_q'13 h_k'17
  unfold f5_j11 at hr
  refine to_seq (sub [1, 1, 1, 1, 1, 0, 1, 0, 0, 1, 0, 0, 1, 1, 1, 1, 1, 1, 1, 0] f5_c) (sub [1, 1, 1, 1, 1, 0, 1, 0, 0, 1, 0, 0, 1, 1, 1, 1, 1, 1, 1, 1] f5_c) (by kernel_rfl) ?_
  refine to_nd 27 4 (rops (sub [1, 1, 1, 1, 1, 0, 1, 0, 0, 1, 0, 0, 1, 1, 1, 1, 1, 1, 1, 0] f5_c)) (by kernel_rfl) (by kernel_rfl) ?_
  refine nd_q (c := 0) 4 [1, 5, 7, 8, 150] hs0 [(1, .slice a_list'1 list'1.length c_list'1), (5, .pointer (some ⟨b_c'5b, 0, none⟩)), (7, .int .i64 next'7), (8, .int .i64 i'8), (150, .bool (k'17 != (q'13.length : Int)))] (by kernel_rfl) fun a1 hs2 => ?_
  refine nd_done ?_
  by_cases hb3 : k'17 = (q'13.length : Int)
  rotate_left
  · rw [if_neg hb3] at hr
    rw [(neT hb3)] at hs2
    refine to_then (.tmp 150) (sub [1, 1, 1, 1, 1, 0, 1, 0, 0, 1, 0, 0, 1, 1, 1, 1, 1, 1, 1, 1, 0] f5_c) (sub [1, 1, 1, 1, 1, 0, 1, 0, 0, 1, 0, 0, 1, 1, 1, 1, 1, 1, 1, 1, 1] f5_c) (by kernel_rfl) hs2 (by kernel_rfl) ?_
    refine to_seq (sub [1, 1, 1, 1, 1, 0, 1, 0, 0, 1, 0, 0, 1, 1, 1, 1, 1, 1, 1, 1, 0, 0] f5_c) (sub [1, 1, 1, 1, 1, 0, 1, 0, 0, 1, 0, 0, 1, 1, 1, 1, 1, 1, 1, 1, 0, 1] f5_c) (by kernel_rfl) ?_
    refine to_nd 28 1 (rops (sub [1, 1, 1, 1, 1, 0, 1, 0, 0, 1, 0, 0, 1, 1, 1, 1, 1, 1, 1, 1, 0, 0] f5_c)) (by kernel_rfl) (by kernel_rfl) ?_
    refine nd_q (c := 0) 1 [4] hs2 [(4, .bool false)] (by kernel_rfl) fun a8 hs9 => ?_
    refine nd_done ?_
    have hst10 := W.St.drop [] hst
    have hst11 := W.St.drop [] hst10
    exact to_ret (v := .bool false) (by kernel_rfl) hbf Try.func5 hbk hs9 (by kernel_rfl) (hQ hr hm0 hst11 )
  rw [if_pos hb3] at hr
  rw [(neF hb3)] at hs2
  refine to_else (.tmp 150) (sub [1, 1, 1, 1, 1, 0, 1, 0, 0, 1, 0, 0, 1, 1, 1, 1, 1, 1, 1, 1, 0] f5_c) (sub [1, 1, 1, 1, 1, 0, 1, 0, 0, 1, 0, 0, 1, 1, 1, 1, 1, 1, 1, 1, 1] f5_c) (by kernel_rfl) hs2 (by kernel_rfl) ?_
  refine to_skip (by kernel_rfl) ?_
  refine reach_inBlock ?_
  refine to_nd 9 3 (rops (sub [1, 1, 1, 1, 1, 0, 1, 0, 0, 1, 1] f5_c)) (by kernel_rfl) (by kernel_rfl) ?_
  refine nd_q (c := 0) 3 [1, 5, 7, 8] hs2 [(1, .slice a_list'1 list'1.length c_list'1), (5, .pointer (some ⟨b_c'5b, 0, none⟩)), (7, .int .i64 next'7), (8, .int .i64 (w64 (i'8 + (1 : Int))))] (by kernel_rfl) fun a4 hs5 => ?_
  refine nd_done ?_
  refine reach_inLoop ?_
  have hst6 := W.St.drop [_] hst
  have hs7 := hs5.kept [1, 5, 7, 8] [(1, .slice a_list'1 list'1.length c_list'1), (5, .pointer (some ⟨b_c'5b, 0, none⟩)), (7, .int .i64 next'7), (8, .int .i64 (w64 (i'8 + (1 : Int))))] (by kernel_rfl)
  exact hX hr hm0 hst6 hs7 (h_c'5b.nn) h_next'7 (wrap_in .i64 _)
def f5_j5_Y (z : Base) (m0 : Mem) (G : List Grp) (b : Frame) (cs : List Frame) (R : Ending → World → Prop) (a_list'1 : Option Addr) (c_list'1 : Nat) (list'1 : (List S40)) (c'5b : S62) (next'7 : Int) (i'8 : Int) (p'12 : (List Int)) (q'13 : (List Int)) (t'94 : Bool) : Prop := ∀ {m : Mem} {w : World} {a : Act} {b_c'5b : Nat} {I_c'5b : Grp} {a_p'12 : Option Addr} {c_p'12 : Nat} {I_p'12 : Grp} {a_q'13 : Option Addr} {c_q'13 : Nat} {I_q'13 : Grp}, m0.le m → W.St z w m (I_c'5b :: I_p'12 :: I_q'13 :: G) → Has 151 a [(1, .slice a_list'1 list'1.length c_list'1), (5, .pointer (some ⟨b_c'5b, 0, none⟩)), (7, .int .i64 next'7), (8, .int .i64 i'8), (12, .slice a_p'12 p'12.length c_p'12), (13, .slice a_q'13 q'13.length c_q'13), (94, .bool t'94)] → (OwnS62 m b_c'5b I_c'5b c'5b) → (InR .i64 next'7) → (InR .i64 i'8) → (OwnSl (kInt .i64) 8 3 m a_p'12 c_p'12 I_p'12 p'12) → (OwnSl (kInt .i64) 8 3 m a_q'13 c_q'13 I_q'13 q'13) → Reach Try.prog b cs R [.code (sub [1, 1, 1, 1, 1, 0, 1, 0, 0, 1, 0, 0, 1, 1, 1, 1, 0, 1] f5_c), .code (sub [1, 1, 1, 1, 1, 0, 1, 0, 0, 1, 0, 0, 1, 1, 1, 1, 1] f5_c), .inBlock 1, .code (sub [1, 1, 1, 1, 1, 0, 1, 0, 0, 1, 1] f5_c), .inLoop (sub [1, 1, 1, 1, 1, 0, 1, 0, 0] f5_c), .inBlock 0, .code (sub [1, 1, 1, 1, 1, 1] f5_c)] a w
def f5_j5 (list'1 : (List S40)) (Q : Bool → Prop) (X : (Option S62) → Int → Int → Prop) (c'5b : S62) (next'7 : Int) (i'8 : Int) (p'12 : (List Int)) (q'13 : (List Int)) (t'94 : Bool) : Prop := if t'94 = true then (Q false) else (f5_l6 list'1 c'5b next'7 i'8 p'12 q'13 (fun k'17e12 => f5_j11 list'1 X Q c'5b next'7 i'8 q'13 k'17e12) Q (0 : Int) (0 : Int))
theorem f5_j5_ok {z : Base} {m0 : Mem} {G : List Grp} {b : Frame} {cs : List Frame} {R : Ending → World → Prop} {a_list'1 : Option Addr} {c_list'1 : Nat} {list'1 : (List S40)} {Q : Bool → Prop} {X : (Option S62) → Int → Int → Prop} (hbf : b.fn = 5) (hbk : b.kind = .normal) (h_list'1 : Sl k40 48 m0 a_list'1 c_list'1 list'1)  (hQ : ∀ {r : Bool}, Q r → f5_YR z m0 G R  r) (hX : ∀ {c'5 : (Option S62)} {next'7 : Int} {i'8 : Int}, X c'5 next'7 i'8 → f5_l2_Y z m0 G b cs R a_list'1 c_list'1 list'1 c'5 next'7 i'8) : ∀ {c'5b : S62} {next'7 : Int} {i'8 : Int} {p'12 : (List Int)} {q'13 : (List Int)} {t'94 : Bool}, f5_j5 list'1 Q X c'5b next'7 i'8 p'12 q'13 t'94 → f5_j5_Y z m0 G b cs R a_list'1 c_list'1 list'1 c'5b next'7 i'8 p'12 q'13 t'94 := by
  intro c'5b next'7 i'8 p'12 q'13 t'94 hr m w a0 b_c'5b I_c'5b a_p'12 c_p'12 I_p'12 a_q'13 c_q'13 I_q'13 hm0 hst hs0 h_c'5b h_next'7 h_i'8 h_p'12 h_q'13
  unfold f5_j5 at hr
  by_cases hb1 : t'94 = true
  · rw [if_pos hb1] at hr
    rw [(bT hb1)] at hs0
    refine to_then (.tmp 94) (sub [1, 1, 1, 1, 1, 0, 1, 0, 0, 1, 0, 0, 1, 1, 1, 1, 0, 1, 0] f5_c) (sub [1, 1, 1, 1, 1, 0, 1, 0, 0, 1, 0, 0, 1, 1, 1, 1, 0, 1, 1] f5_c) (by kernel_rfl) hs0 (by kernel_rfl) ?_
    refine to_seq (sub [1, 1, 1, 1, 1, 0, 1, 0, 0, 1, 0, 0, 1, 1, 1, 1, 0, 1, 0, 0] f5_c) (sub [1, 1, 1, 1, 1, 0, 1, 0, 0, 1, 0, 0, 1, 1, 1, 1, 0, 1, 0, 1] f5_c) (by kernel_rfl) ?_
    refine to_nd 18 1 (rops (sub [1, 1, 1, 1, 1, 0, 1, 0, 0, 1, 0, 0, 1, 1, 1, 1, 0, 1, 0, 0] f5_c)) (by kernel_rfl) (by kernel_rfl) ?_
    refine nd_q (c := 0) 1 [4] hs0 [(4, .bool false)] (by kernel_rfl) fun a2 hs3 => ?_
    refine nd_done ?_
    have hst4 := W.St.drop [] hst
    have hst5 := W.St.drop [] hst4
    have hst6 := W.St.drop [] hst5
    exact to_ret (v := .bool false) (by kernel_rfl) hbf Try.func5 hbk hs3 (by kernel_rfl) (hQ hr hm0 hst6 )
  rw [if_neg hb1] at hr
  rw [(bF hb1)] at hs0
  refine to_else (.tmp 94) (sub [1, 1, 1, 1, 1, 0, 1, 0, 0, 1, 0, 0, 1, 1, 1, 1, 0, 1, 0] f5_c) (sub [1, 1, 1, 1, 1, 0, 1, 0, 0, 1, 0, 0, 1, 1, 1, 1, 0, 1, 1] f5_c) (by kernel_rfl) hs0 (by kernel_rfl) ?_
  refine to_skip (by kernel_rfl) ?_
  refine to_seq (sub [1, 1, 1, 1, 1, 0, 1, 0, 0, 1, 0, 0, 1, 1, 1, 1, 1, 0] f5_c) (sub [1, 1, 1, 1, 1, 0, 1, 0, 0, 1, 0, 0, 1, 1, 1, 1, 1, 1] f5_c) (by kernel_rfl) ?_
  refine to_nd 19 1 (rops (sub [1, 1, 1, 1, 1, 0, 1, 0, 0, 1, 0, 0, 1, 1, 1, 1, 1, 0] f5_c)) (by kernel_rfl) (by kernel_rfl) ?_
  refine nd_q (c := 0) 1 [1, 5, 7, 8, 12, 13, 17] hs0 [(1, .slice a_list'1 list'1.length c_list'1), (5, .pointer (some ⟨b_c'5b, 0, none⟩)), (7, .int .i64 next'7), (8, .int .i64 i'8), (12, .slice a_p'12 p'12.length c_p'12), (13, .slice a_q'13 q'13.length c_q'13), (17, .int .i64 (0 : Int))] (by kernel_rfl) fun a7 hs8 => ?_
  refine nd_done ?_
  refine to_seq (sub [1, 1, 1, 1, 1, 0, 1, 0, 0, 1, 0, 0, 1, 1, 1, 1, 1, 1, 0] f5_c) (sub [1, 1, 1, 1, 1, 0, 1, 0, 0, 1, 0, 0, 1, 1, 1, 1, 1, 1, 1] f5_c) (by kernel_rfl) ?_
  refine to_seq (sub [1, 1, 1, 1, 1, 0, 1, 0, 0, 1, 0, 0, 1, 1, 1, 1, 1, 1, 0, 0] f5_c) (sub [1, 1, 1, 1, 1, 0, 1, 0, 0, 1, 0, 0, 1, 1, 1, 1, 1, 1, 0, 1] f5_c) (by kernel_rfl) ?_
  refine to_nd 20 1 (rops (sub [1, 1, 1, 1, 1, 0, 1, 0, 0, 1, 0, 0, 1, 1, 1, 1, 1, 1, 0, 0] f5_c)) (by kernel_rfl) (by kernel_rfl) ?_
  refine nd_q (c := 0) 1 [1, 5, 7, 8, 12, 13, 17, 18] hs8 [(1, .slice a_list'1 list'1.length c_list'1), (5, .pointer (some ⟨b_c'5b, 0, none⟩)), (7, .int .i64 next'7), (8, .int .i64 i'8), (12, .slice a_p'12 p'12.length c_p'12), (13, .slice a_q'13 q'13.length c_q'13), (17, .int .i64 (0 : Int)), (18, .int .i64 (0 : Int))] (by kernel_rfl) fun a9 hs10 => ?_
  refine nd_done ?_
  refine to_block 2 (sub [1, 1, 1, 1, 1, 0, 1, 0, 0, 1, 0, 0, 1, 1, 1, 1, 1, 1, 0, 1, 0] f5_c) (by kernel_rfl) ?_
  refine to_loop (sub [1, 1, 1, 1, 1, 0, 1, 0, 0, 1, 0, 0, 1, 1, 1, 1, 1, 1, 0, 1, 0, 0] f5_c) (by kernel_rfl) ?_
  have hs11 := hs10.kept [1, 5, 7, 8, 12, 13, 17, 18] [(1, .slice a_list'1 list'1.length c_list'1), (5, .pointer (some ⟨b_c'5b, 0, none⟩)), (7, .int .i64 next'7), (8, .int .i64 i'8), (12, .slice a_p'12 p'12.length c_p'12), (13, .slice a_q'13 q'13.length c_q'13), (17, .int .i64 (0 : Int)), (18, .int .i64 (0 : Int))] (by kernel_rfl)
  refine f5_l6_ok hbf hbk (h_list'1.mono hm0) h_c'5b h_next'7 h_i'8 h_p'12 h_q'13  ?_ (fun hq => f5_YR_mono hm0 (hQ hq)) hr (Mem.le.refl _) hst hs11 (inr_of (by kernel_rfl)) (inr_of (by kernel_rfl))
  intro k'17e12 hr
  intro m13 w15 a17  hm14 hst16 hs18 h_k'17e12
  have hs19 := hs18.kept [1, 5, 7, 8, 13, 17] [(1, .slice a_list'1 list'1.length c_list'1), (5, .pointer (some ⟨b_c'5b, 0, none⟩)), (7, .int .i64 next'7), (8, .int .i64 i'8), (13, .slice a_q'13 q'13.length c_q'13), (17, .int .i64 k'17e12)] (by kernel_rfl)
  exact f5_j11_ok hbf hbk h_list'1  hX hQ hr (hm0.trans hm14) hst16 hs19 (h_c'5b.mono hm14) h_next'7 h_i'8 (h_q'13.mono hm14) h_k'17e12
def f5_j4_Y (z : Base) (m0 : Mem) (G : List Grp) (b : Frame) (cs : List Frame) (R : Ending → World → Prop) (a_list'1 : Option Addr) (c_list'1 : Nat) (list'1 : (List S40)) (c'5b : S62) (next'7 : Int) (i'8 : Int) : Prop := ∀ {m : Mem} {w : World} {a : Act} {b_c'5b : Nat} {I_c'5b : Grp}, m0.le m → W.St z w m (I_c'5b :: G) → Has 151 a [(1, .slice a_list'1 list'1.length c_list'1), (5, .pointer (some ⟨b_c'5b, 0, none⟩)), (7, .int .i64 next'7), (8, .int .i64 i'8)] → (OwnS62 m b_c'5b I_c'5b c'5b) → (InR .i64 next'7) → (InR .i64 i'8) → Reach Try.prog b cs R [.code (sub [1, 1, 1, 1, 1, 0, 1, 0, 0, 1, 0, 0, 1, 1] f5_c), .inBlock 1, .code (sub [1, 1, 1, 1, 1, 0, 1, 0, 0, 1, 1] f5_c), .inLoop (sub [1, 1, 1, 1, 1, 0, 1, 0, 0] f5_c), .inBlock 0, .code (sub [1, 1, 1, 1, 1, 1] f5_c)] a w
def f5_j4 (list'1 : (List S40)) (Q : Bool → Prop) (X : (Option S62) → Int → Int → Prop) (c'5b : S62) (next'7 : Int) (i'8 : Int) : Prop := f12 c'5b fun r9 => f19 c'5b fun r25 => f11 c'5b fun r43 => if r43.1 = next'7 then (f5_j5 list'1 Q X c'5b next'7 i'8 r9 r25 (r43.1 != (w64 ((w64 ((r9.length : Int) + r43.2.1)) + r43.2.2)))) else (f5_j5 list'1 Q X c'5b next'7 i'8 r9 r25 true)
theorem f5_j4_ok {z : Base} {m0 : Mem} {G : List Grp} {b : Frame} {cs : List Frame} {R : Ending → World → Prop} {a_list'1 : Option Addr} {c_list'1 : Nat} {list'1 : (List S40)} {Q : Bool → Prop} {X : (Option S62) → Int → Int → Prop} (hbf : b.fn = 5) (hbk : b.kind = .normal) (h_list'1 : Sl k40 48 m0 a_list'1 c_list'1 list'1)  (hQ : ∀ {r : Bool}, Q r → f5_YR z m0 G R  r) (hX : ∀ {c'5 : (Option S62)} {next'7 : Int} {i'8 : Int}, X c'5 next'7 i'8 → f5_l2_Y z m0 G b cs R a_list'1 c_list'1 list'1 c'5 next'7 i'8) : ∀ {c'5b : S62} {next'7 : Int} {i'8 : Int}, f5_j4 list'1 Q X c'5b next'7 i'8 → f5_j4_Y z m0 G b cs R a_list'1 c_list'1 list'1 c'5b next'7 i'8 := by
  intro c'5b next'7 i'8 hr m w a0 b_c'5b I_c'5b hm0 hst hs0 h_c'5b h_next'7 h_i'8
  unfold f5_j4 at hr
  refine to_seq (sub [1, 1, 1, 1, 1, 0, 1, 0, 0, 1, 0, 0, 1, 1, 0] f5_c) (sub [1, 1, 1, 1, 1, 0, 1, 0, 0, 1, 0, 0, 1, 1, 1] f5_c) (by kernel_rfl) ?_
  refine to_nd 15 6 (rops (sub [1, 1, 1, 1, 1, 0, 1, 0, 0, 1, 0, 0, 1, 1, 0] f5_c)) (by kernel_rfl) (by kernel_rfl) ?_
  refine nd_q (c := 5) 1 [1, 5, 7, 8, 72] hs0 [(1, .slice a_list'1 list'1.length c_list'1), (5, .pointer (some ⟨b_c'5b, 0, none⟩)), (7, .int .i64 next'7), (8, .int .i64 i'8), (72, .pointer (some ⟨b_c'5b, 0, none⟩))] (by kernel_rfl) fun a1 hs2 => ?_
  have hz4 := h_c'5b.lend hst
  have hst5 := W.St.freeze hst
  have hm6 := Mem.le_add m I_c'5b
  generalize hq7 : Mem.add m I_c'5b = m3 at hz4 hst5 hm6
  obtain ⟨aq8_0, cq8_0, rq8_1, aq8_2, cq8_2, hAq8, hfq8_0, hfq8_1, hfq8_2, hfq8_3, hfq8_4, hfq8_5⟩ := hz4
  refine nd_op (op_call (some 73) hs2 (by kernel_rfl) (by kernel_rfl) ((f12_ok hst5 hAq8 hfq8_0 hfq8_1 hfq8_2 hfq8_3 hfq8_4 hfq8_5 hr).mono ?_))
  rintro _ w10 ⟨r9, a9_0_0, c9_0_0, I9_0_0, hst13, rfl, hf9_0_0, hr⟩
  revert hr; intro hr
  refine ⟨_, rfl, fun a11 hs12 => ?_⟩
  have hst16 := W.St.thaw2 hst (by rw [hq7]; exact Mem.le.refl _) hst13
  refine nd_q (c := 3) 1 [1, 5, 7, 8, 73, 74] hs12 [(1, .slice a_list'1 list'1.length c_list'1), (5, .pointer (some ⟨b_c'5b, 0, none⟩)), (7, .int .i64 next'7), (8, .int .i64 i'8), (73, .slice a9_0_0 r9.length c9_0_0), (74, .pointer (some ⟨b_c'5b, 0, none⟩))] (by kernel_rfl) fun a17 hs18 => ?_
  have hz20 := h_c'5b.lend hst16
  have hst21 := W.St.freeze hst16
  have hm22 := Mem.le_add m I_c'5b
  generalize hq23 : Mem.add m I_c'5b = m19 at hz20 hst21 hm22
  obtain ⟨aq24_0, cq24_0, rq24_1, aq24_2, cq24_2, hAq24, hfq24_0, hfq24_1, hfq24_2, hfq24_3, hfq24_4, hfq24_5⟩ := hz20
  refine nd_op (op_call (some 75) hs18 (by kernel_rfl) (by kernel_rfl) ((f19_ok hst21 hAq24 hfq24_0 hfq24_1 hfq24_2 hfq24_3 hfq24_4 hfq24_5 hr).mono ?_))
  rintro _ w26 ⟨r25, a25_0_0, c25_0_0, I25_0_0, hst29, rfl, hf25_0_0, hr⟩
  revert hr; intro hr
  refine ⟨_, rfl, fun a27 hs28 => ?_⟩
  have hst32 := W.St.thaw2 hst16 (by rw [hq23]; exact Mem.le.refl _) hst29
  refine nd_q (c := 0) 2 [1, 5, 7, 8, 12, 13] hs28 [(1, .slice a_list'1 list'1.length c_list'1), (5, .pointer (some ⟨b_c'5b, 0, none⟩)), (7, .int .i64 next'7), (8, .int .i64 i'8), (12, .slice a9_0_0 r9.length c9_0_0), (13, .slice a25_0_0 r25.length c25_0_0)] (by kernel_rfl) fun a33 hs34 => ?_
  refine nd_done ?_
  refine to_seq (sub [1, 1, 1, 1, 1, 0, 1, 0, 0, 1, 0, 0, 1, 1, 1, 0] f5_c) (sub [1, 1, 1, 1, 1, 0, 1, 0, 0, 1, 0, 0, 1, 1, 1, 1] f5_c) (by kernel_rfl) ?_
  refine to_nd 16 9 (rops (sub [1, 1, 1, 1, 1, 0, 1, 0, 0, 1, 0, 0, 1, 1, 1, 0] f5_c)) (by kernel_rfl) (by kernel_rfl) ?_
  refine nd_q (c := 8) 1 [1, 5, 7, 8, 12, 13, 77] hs34 [(1, .slice a_list'1 list'1.length c_list'1), (5, .pointer (some ⟨b_c'5b, 0, none⟩)), (7, .int .i64 next'7), (8, .int .i64 i'8), (12, .slice a9_0_0 r9.length c9_0_0), (13, .slice a25_0_0 r25.length c25_0_0), (77, .pointer (some ⟨b_c'5b, 0, none⟩))] (by kernel_rfl) fun a35 hs36 => ?_
  have hz38 := h_c'5b.lend hst32
  have hst39 := W.St.freeze hst32
  have hm40 := Mem.le_add m I_c'5b
  generalize hq41 : Mem.add m I_c'5b = m37 at hz38 hst39 hm40
  obtain ⟨aq42_0, cq42_0, rq42_1, aq42_2, cq42_2, hAq42, hfq42_0, hfq42_1, hfq42_2, hfq42_3, hfq42_4, hfq42_5⟩ := hz38
  refine nd_op (op_call (some 78) hs36 (by kernel_rfl) (by kernel_rfl) ((f11_ok hst39 hAq42 hfq42_0 hfq42_1 hfq42_2 hfq42_3 hfq42_4 hfq42_5 hr).mono ?_))
  rintro _ w44 ⟨r43, hst47, rfl, hf43_0_0, hf43_1_0, hf43_2_0, hr⟩
  revert hr; intro hr
  refine ⟨_, rfl, fun a45 hs46 => ?_⟩
  have hst50 := W.St.thaw2 hst32 (by rw [hq41]; exact Mem.le.refl _) hst47
  refine nd_q (c := 0) 7 [1, 5, 7, 8, 12, 13, 14, 15, 16] hs46 [(1, .slice a_list'1 list'1.length c_list'1), (5, .pointer (some ⟨b_c'5b, 0, none⟩)), (7, .int .i64 next'7), (8, .int .i64 i'8), (12, .slice a9_0_0 r9.length c9_0_0), (13, .slice a25_0_0 r25.length c25_0_0), (14, .int .i64 r43.1), (15, .int .i64 r43.2.1), (16, .int .i64 r43.2.2)] (by kernel_rfl) fun a51 hs52 => ?_
  refine nd_done ?_
  refine to_seq (sub [1, 1, 1, 1, 1, 0, 1, 0, 0, 1, 0, 0, 1, 1, 1, 1, 0] f5_c) (sub [1, 1, 1, 1, 1, 0, 1, 0, 0, 1, 0, 0, 1, 1, 1, 1, 1] f5_c) (by kernel_rfl) ?_
  refine to_seq (sub [1, 1, 1, 1, 1, 0, 1, 0, 0, 1, 0, 0, 1, 1, 1, 1, 0, 0] f5_c) (sub [1, 1, 1, 1, 1, 0, 1, 0, 0, 1, 0, 0, 1, 1, 1, 1, 0, 1] f5_c) (by kernel_rfl) ?_
  refine to_nd 17 13 (rops (sub [1, 1, 1, 1, 1, 0, 1, 0, 0, 1, 0, 0, 1, 1, 1, 1, 0, 0] f5_c)) (by kernel_rfl) (by kernel_rfl) ?_
  refine nd_q (c := 9) 4 [1, 5, 7, 8, 12, 13, 14, 15, 16, 85] hs52 [(1, .slice a_list'1 list'1.length c_list'1), (5, .pointer (some ⟨b_c'5b, 0, none⟩)), (7, .int .i64 next'7), (8, .int .i64 i'8), (12, .slice a9_0_0 r9.length c9_0_0), (13, .slice a25_0_0 r25.length c25_0_0), (14, .int .i64 r43.1), (15, .int .i64 r43.2.1), (16, .int .i64 r43.2.2), (85, .bool (r43.1 != next'7))] (by kernel_rfl) fun a53 hs54 => ?_
  by_cases hb55 : r43.1 = next'7
  · rw [if_pos hb55] at hr
    rw [(neF hb55)] at hs54
    refine nd_q (c := 0) 9 [1, 5, 7, 8, 12, 13, 94] hs54 [(1, .slice a_list'1 list'1.length c_list'1), (5, .pointer (some ⟨b_c'5b, 0, none⟩)), (7, .int .i64 next'7), (8, .int .i64 i'8), (12, .slice a9_0_0 r9.length c9_0_0), (13, .slice a25_0_0 r25.length c25_0_0), (94, .bool (r43.1 != (w64 ((w64 ((r9.length : Int) + r43.2.1)) + r43.2.2))))] (by kernel_rfl) fun a56 hs57 => ?_
    refine nd_done ?_
    have hst58 := W.St.front [_] hst50
    have hst59 := W.St.front [_, _] hst58
    have hst60 := W.St.front [_, _] hst59
    have hs61 := hs57.kept [1, 5, 7, 8, 12, 13, 94] [(1, .slice a_list'1 list'1.length c_list'1), (5, .pointer (some ⟨b_c'5b, 0, none⟩)), (7, .int .i64 next'7), (8, .int .i64 i'8), (12, .slice a9_0_0 r9.length c9_0_0), (13, .slice a25_0_0 r25.length c25_0_0), (94, .bool (r43.1 != (w64 ((w64 ((r9.length : Int) + r43.2.1)) + r43.2.2))))] (by kernel_rfl)
    exact f5_j5_ok hbf hbk h_list'1  hQ hX hr hm0 hst60 hs61 h_c'5b h_next'7 h_i'8 (OwnSl.flat flat_int hf9_0_0) (OwnSl.flat flat_int hf25_0_0)
  rw [if_neg hb55] at hr
  rw [(neT hb55)] at hs54
  refine nd_q (c := 0) 9 [1, 5, 7, 8, 12, 13, 94] hs54 [(1, .slice a_list'1 list'1.length c_list'1), (5, .pointer (some ⟨b_c'5b, 0, none⟩)), (7, .int .i64 next'7), (8, .int .i64 i'8), (12, .slice a9_0_0 r9.length c9_0_0), (13, .slice a25_0_0 r25.length c25_0_0), (94, .bool true)] (by kernel_rfl) fun a62 hs63 => ?_
  refine nd_done ?_
  have hst64 := W.St.front [_] hst50
  have hst65 := W.St.front [_, _] hst64
  have hst66 := W.St.front [_, _] hst65
  have hs67 := hs63.kept [1, 5, 7, 8, 12, 13, 94] [(1, .slice a_list'1 list'1.length c_list'1), (5, .pointer (some ⟨b_c'5b, 0, none⟩)), (7, .int .i64 next'7), (8, .int .i64 i'8), (12, .slice a9_0_0 r9.length c9_0_0), (13, .slice a25_0_0 r25.length c25_0_0), (94, .bool true)] (by kernel_rfl)
  exact f5_j5_ok hbf hbk h_list'1  hQ hX hr hm0 hst66 hs67 h_c'5b h_next'7 h_i'8 (OwnSl.flat flat_int hf9_0_0) (OwnSl.flat flat_int hf25_0_0)
def f5_j3_Y (z : Base) (m0 : Mem) (G : List Grp) (b : Frame) (cs : List Frame) (R : Ending → World → Prop) (a_list'1 : Option Addr) (c_list'1 : Nat) (list'1 : (List S40)) (c'5b : S62) (next'7 : Int) (i'8 : Int) (n'9 : Int) (t'66 : Bool) : Prop := ∀ {m : Mem} {w : World} {a : Act} {b_c'5b : Nat} {I_c'5b : Grp}, m0.le m → W.St z w m (I_c'5b :: G) → Has 151 a [(1, .slice a_list'1 list'1.length c_list'1), (5, .pointer (some ⟨b_c'5b, 0, none⟩)), (7, .int .i64 next'7), (8, .int .i64 i'8), (9, .int .i64 n'9), (66, .bool t'66)] → (OwnS62 m b_c'5b I_c'5b c'5b) → (InR .i64 next'7) → (InR .i64 i'8) → (InR .i64 n'9) → Reach Try.prog b cs R [.code (sub [1, 1, 1, 1, 1, 0, 1, 0, 0, 1, 0, 0, 1, 0, 1] f5_c), .code (sub [1, 1, 1, 1, 1, 0, 1, 0, 0, 1, 0, 0, 1, 1] f5_c), .inBlock 1, .code (sub [1, 1, 1, 1, 1, 0, 1, 0, 0, 1, 1] f5_c), .inLoop (sub [1, 1, 1, 1, 1, 0, 1, 0, 0] f5_c), .inBlock 0, .code (sub [1, 1, 1, 1, 1, 1] f5_c)] a w
def f5_j3 (list'1 : (List S40)) (Q : Bool → Prop) (X : (Option S62) → Int → Int → Prop) (c'5b : S62) (next'7 : Int) (i'8 : Int) (n'9 : Int) (t'66 : Bool) : Prop := if t'66 = true then (if n'9 = next'7 then (f5_j4 list'1 Q X c'5b (w64 (next'7 + (1 : Int))) i'8) else (Q false)) else (f5_j4 list'1 Q X c'5b next'7 i'8)
theorem f5_j3_ok {z : Base} {m0 : Mem} {G : List Grp} {b : Frame} {cs : List Frame} {R : Ending → World → Prop} {a_list'1 : Option Addr} {c_list'1 : Nat} {list'1 : (List S40)} {Q : Bool → Prop} {X : (Option S62) → Int → Int → Prop} (hbf : b.fn = 5) (hbk : b.kind = .normal) (h_list'1 : Sl k40 48 m0 a_list'1 c_list'1 list'1)  (hQ : ∀ {r : Bool}, Q r → f5_YR z m0 G R  r) (hX : ∀ {c'5 : (Option S62)} {next'7 : Int} {i'8 : Int}, X c'5 next'7 i'8 → f5_l2_Y z m0 G b cs R a_list'1 c_list'1 list'1 c'5 next'7 i'8) : ∀ {c'5b : S62} {next'7 : Int} {i'8 : Int} {n'9 : Int} {t'66 : Bool}, f5_j3 list'1 Q X c'5b next'7 i'8 n'9 t'66 → f5_j3_Y z m0 G b cs R a_list'1 c_list'1 list'1 c'5b next'7 i'8 n'9 t'66 := by
  intro c'5b next'7 i'8 n'9 t'66 hr m w a0 b_c'5b I_c'5b hm0 hst hs0 h_c'5b h_next'7 h_i'8 h_n'9
  unfold f5_j3 at hr
  by_cases hb1 : t'66 = true
  rotate_left
  · rw [if_neg hb1] at hr
    rw [(bF hb1)] at hs0
    refine to_else (.tmp 66) (sub [1, 1, 1, 1, 1, 0, 1, 0, 0, 1, 0, 0, 1, 0, 1, 0] f5_c) (sub [1, 1, 1, 1, 1, 0, 1, 0, 0, 1, 0, 0, 1, 0, 1, 1] f5_c) (by kernel_rfl) hs0 (by kernel_rfl) ?_
    refine to_skip (by kernel_rfl) ?_
    have hs11 := hs0.kept [1, 5, 7, 8] [(1, .slice a_list'1 list'1.length c_list'1), (5, .pointer (some ⟨b_c'5b, 0, none⟩)), (7, .int .i64 next'7), (8, .int .i64 i'8)] (by kernel_rfl)
    exact f5_j4_ok hbf hbk h_list'1  hQ hX hr hm0 hst hs11 h_c'5b h_next'7 h_i'8
  rw [if_pos hb1] at hr
  rw [(bT hb1)] at hs0
  refine to_then (.tmp 66) (sub [1, 1, 1, 1, 1, 0, 1, 0, 0, 1, 0, 0, 1, 0, 1, 0] f5_c) (sub [1, 1, 1, 1, 1, 0, 1, 0, 0, 1, 0, 0, 1, 0, 1, 1] f5_c) (by kernel_rfl) hs0 (by kernel_rfl) ?_
  refine to_seq (sub [1, 1, 1, 1, 1, 0, 1, 0, 0, 1, 0, 0, 1, 0, 1, 0, 0] f5_c) (sub [1, 1, 1, 1, 1, 0, 1, 0, 0, 1, 0, 0, 1, 0, 1, 0, 1] f5_c) (by kernel_rfl) ?_
  refine to_seq (sub [1, 1, 1, 1, 1, 0, 1, 0, 0, 1, 0, 0, 1, 0, 1, 0, 0, 0] f5_c) (sub [1, 1, 1, 1, 1, 0, 1, 0, 0, 1, 0, 0, 1, 0, 1, 0, 0, 1] f5_c) (by kernel_rfl) ?_
  refine to_nd 12 3 (rops (sub [1, 1, 1, 1, 1, 0, 1, 0, 0, 1, 0, 0, 1, 0, 1, 0, 0, 0] f5_c)) (by kernel_rfl) (by kernel_rfl) ?_
  refine nd_q (c := 0) 3 [1, 5, 7, 8, 69] hs0 [(1, .slice a_list'1 list'1.length c_list'1), (5, .pointer (some ⟨b_c'5b, 0, none⟩)), (7, .int .i64 next'7), (8, .int .i64 i'8), (69, .bool (n'9 != next'7))] (by kernel_rfl) fun a2 hs3 => ?_
  refine nd_done ?_
  by_cases hb4 : n'9 = next'7
  · rw [if_pos hb4] at hr
    rw [(neF hb4)] at hs3
    refine to_else (.tmp 69) (sub [1, 1, 1, 1, 1, 0, 1, 0, 0, 1, 0, 0, 1, 0, 1, 0, 0, 1, 0] f5_c) (sub [1, 1, 1, 1, 1, 0, 1, 0, 0, 1, 0, 0, 1, 0, 1, 0, 0, 1, 1] f5_c) (by kernel_rfl) hs3 (by kernel_rfl) ?_
    refine to_skip (by kernel_rfl) ?_
    refine to_nd 14 3 (rops (sub [1, 1, 1, 1, 1, 0, 1, 0, 0, 1, 0, 0, 1, 0, 1, 0, 1] f5_c)) (by kernel_rfl) (by kernel_rfl) ?_
    refine nd_q (c := 0) 3 [1, 5, 7, 8] hs3 [(1, .slice a_list'1 list'1.length c_list'1), (5, .pointer (some ⟨b_c'5b, 0, none⟩)), (7, .int .i64 (w64 (next'7 + (1 : Int)))), (8, .int .i64 i'8)] (by kernel_rfl) fun a5 hs6 => ?_
    refine nd_done ?_
    have hs7 := hs6.kept [1, 5, 7, 8] [(1, .slice a_list'1 list'1.length c_list'1), (5, .pointer (some ⟨b_c'5b, 0, none⟩)), (7, .int .i64 (w64 (next'7 + (1 : Int)))), (8, .int .i64 i'8)] (by kernel_rfl)
    exact f5_j4_ok hbf hbk h_list'1  hQ hX hr hm0 hst hs7 h_c'5b (wrap_in .i64 _) h_i'8
  rw [if_neg hb4] at hr
  rw [(neT hb4)] at hs3
  refine to_then (.tmp 69) (sub [1, 1, 1, 1, 1, 0, 1, 0, 0, 1, 0, 0, 1, 0, 1, 0, 0, 1, 0] f5_c) (sub [1, 1, 1, 1, 1, 0, 1, 0, 0, 1, 0, 0, 1, 0, 1, 0, 0, 1, 1] f5_c) (by kernel_rfl) hs3 (by kernel_rfl) ?_
  refine to_seq (sub [1, 1, 1, 1, 1, 0, 1, 0, 0, 1, 0, 0, 1, 0, 1, 0, 0, 1, 0, 0] f5_c) (sub [1, 1, 1, 1, 1, 0, 1, 0, 0, 1, 0, 0, 1, 0, 1, 0, 0, 1, 0, 1] f5_c) (by kernel_rfl) ?_
  refine to_nd 13 1 (rops (sub [1, 1, 1, 1, 1, 0, 1, 0, 0, 1, 0, 0, 1, 0, 1, 0, 0, 1, 0, 0] f5_c)) (by kernel_rfl) (by kernel_rfl) ?_
  refine nd_q (c := 0) 1 [4] hs3 [(4, .bool false)] (by kernel_rfl) fun a8 hs9 => ?_
  refine nd_done ?_
  have hst10 := W.St.drop [] hst
  exact to_ret (v := .bool false) (by kernel_rfl) hbf Try.func5 hbk hs9 (by kernel_rfl) (hQ hr hm0 hst10 )
def f5_l2_Yk1 (z : Base) (m0 : Mem) (G : List Grp) (b : Frame) (cs : List Frame) (R : Ending → World → Prop) (a_list'1 : Option Addr) (c_list'1 : Nat) (list'1 : (List S40))  : Prop := ∀ {m : Mem} {w : World} {a : Act} , m0.le m → W.St z w m (G) → Has 151 a [] →  Reach Try.prog b cs R [.code (sub [1, 1, 1, 1, 1, 1] f5_c)] a w
def f5_l2_b (list'1 : (List S40)) (k1 : Prop) (Q : Bool → Prop) (X : (Option S62) → Int → Int → Prop) (c'5 : (Option S62)) (next'7 : Int) (i'8 : Int) : Prop := if i'8 < (list'1.length : Int) then (ofO (ix list'1 i'8) fun x6 => onPtr c'5 False (fun y11 => f15 y11 x6 fun r15 => if r15.2.2.1 = (0 : Int) then (ofO (ix list'1 i'8) fun x41 => if x41.f0 = (0 : Int) then (f5_j3 list'1 Q X r15.2.2.2 next'7 i'8 r15.1 true) else (ofO (ix list'1 i'8) fun x57 => f5_j3 list'1 Q X r15.2.2.2 next'7 i'8 r15.1 (x57.f0 == (3 : Int)))) else (f5_j3 list'1 Q X r15.2.2.2 next'7 i'8 r15.1 false))) else (k1)
def f5_l2 (list'1 : (List S40)) (k1 : Prop) (Q : Bool → Prop) (c'5 : (Option S62)) (next'7 : Int) (i'8 : Int) : Prop := ∀ X : (Option S62) → Int → Int → Prop, (∀ {c'5 : (Option S62)} {next'7 : Int} {i'8 : Int}, f5_l2_b list'1 k1 Q X c'5 next'7 i'8 → X c'5 next'7 i'8) → X c'5 next'7 i'8
theorem f5_l2_ok {z : Base} {m0 : Mem} {G : List Grp} {b : Frame} {cs : List Frame} {R : Ending → World → Prop} {a_list'1 : Option Addr} {c_list'1 : Nat} {list'1 : (List S40)} {k1 : Prop} {Q : Bool → Prop}  (hbf : b.fn = 5) (hbk : b.kind = .normal) (h_list'1 : Sl k40 48 m0 a_list'1 c_list'1 list'1)  (hk1 : ∀ (_u : Unit), k1  → f5_l2_Yk1 z m0 G b cs R a_list'1 c_list'1 list'1 ) (hQ : ∀ {r : Bool}, Q r → f5_YR z m0 G R  r) : ∀ {c'5 : (Option S62)} {next'7 : Int} {i'8 : Int}, f5_l2 list'1 k1 Q c'5 next'7 i'8 → f5_l2_Y z m0 G b cs R a_list'1 c_list'1 list'1 c'5 next'7 i'8 := by
  intro c'5 next'7 i'8 hr
  refine hr (f5_l2_Y z m0 G b cs R a_list'1 c_list'1 list'1) ?_
  intro c'5 next'7 i'8 hr m w a0 p_c'5 I_c'5 hm0 hst hs0 h_c'5 h_next'7 h_i'8
  have hX : ∀ {c'5 : (Option S62)} {next'7 : Int} {i'8 : Int}, f5_l2_Y z m0 G b cs R a_list'1 c_list'1 list'1 c'5 next'7 i'8 → f5_l2_Y z m0 G b cs R a_list'1 c_list'1 list'1 c'5 next'7 i'8 := fun h => h
  unfold f5_l2_b at hr
  refine to_seq (sub [1, 1, 1, 1, 1, 0, 1, 0, 0, 0] f5_c) (sub [1, 1, 1, 1, 1, 0, 1, 0, 0, 1] f5_c) (by kernel_rfl) ?_
  refine to_seq (sub [1, 1, 1, 1, 1, 0, 1, 0, 0, 0, 0] f5_c) (sub [1, 1, 1, 1, 1, 0, 1, 0, 0, 0, 1] f5_c) (by kernel_rfl) ?_
  refine to_nd 8 4 (rops (sub [1, 1, 1, 1, 1, 0, 1, 0, 0, 0, 0] f5_c)) (by kernel_rfl) (by kernel_rfl) ?_
  refine nd_q (c := 0) 4 [1, 5, 7, 8, 36] hs0 [(1, .slice a_list'1 list'1.length c_list'1), (5, .pointer p_c'5), (7, .int .i64 next'7), (8, .int .i64 i'8), (36, .bool (decide (i'8 < (list'1.length : Int))))] (by kernel_rfl) fun a1 hs2 => ?_
  refine nd_done ?_
  by_cases hb3 : i'8 < (list'1.length : Int)
  rotate_left
  · rw [if_neg hb3] at hr
    rw [(decide_eq_false hb3)] at hs2
    refine to_else (.tmp 36) (sub [1, 1, 1, 1, 1, 0, 1, 0, 0, 0, 1, 0] f5_c) (sub [1, 1, 1, 1, 1, 0, 1, 0, 0, 0, 1, 1] f5_c) (by kernel_rfl) hs2 (by kernel_rfl) ?_
    refine to_exit 0 (by kernel_rfl) [.code (sub [1, 1, 1, 1, 1, 1] f5_c)] rfl ?_
    have hst72 := W.St.drop [] hst
    have hs73 := hs2.kept [] [] (by kernel_rfl)
    exact hk1 () hr hm0 hst72 hs73 
  rw [if_pos hb3] at hr
  rw [(decide_eq_true hb3)] at hs2
  refine to_then (.tmp 36) (sub [1, 1, 1, 1, 1, 0, 1, 0, 0, 0, 1, 0] f5_c) (sub [1, 1, 1, 1, 1, 0, 1, 0, 0, 0, 1, 1] f5_c) (by kernel_rfl) hs2 (by kernel_rfl) ?_
  refine to_skip (by kernel_rfl) ?_
  refine to_seq (sub [1, 1, 1, 1, 1, 0, 1, 0, 0, 1, 0] f5_c) (sub [1, 1, 1, 1, 1, 0, 1, 0, 0, 1, 1] f5_c) (by kernel_rfl) ?_
  refine to_block 1 (sub [1, 1, 1, 1, 1, 0, 1, 0, 0, 1, 0, 0] f5_c) (by kernel_rfl) ?_
  refine to_seq (sub [1, 1, 1, 1, 1, 0, 1, 0, 0, 1, 0, 0, 0] f5_c) (sub [1, 1, 1, 1, 1, 0, 1, 0, 0, 1, 0, 0, 1] f5_c) (by kernel_rfl) ?_
  refine to_nd 10 14 (rops (sub [1, 1, 1, 1, 1, 0, 1, 0, 0, 1, 0, 0, 0] f5_c)) (by kernel_rfl) (by kernel_rfl) ?_
  refine nd_q (c := 11) 3 [1, 5, 7, 8, 40, 41, 42] hs2 [(1, .slice a_list'1 list'1.length c_list'1), (5, .pointer p_c'5), (7, .int .i64 next'7), (8, .int .i64 i'8), (40, .pointer p_c'5), (41, .slice a_list'1 list'1.length c_list'1), (42, .int .i64 i'8)] (by kernel_rfl) fun a4 hs5 => ?_
  obtain ⟨x6, hx6, hr⟩ := ofO_el hr
  obtain ⟨ad6, c6, hA6, hR6, hX6⟩ := Row.ix (h_list'1.mono hm0).1 hx6
  obtain ⟨he6, hf6_0, hf6_1, hf6_2, hf6_3, hf6_4⟩ := k40_open hR6
  have hB6 := hA6.conv he6
  refine nd_v (i := 3) (c := 10) 43 (.pointer (some ad6)) hs5 (by kernel_rfl) (hX6 (P := Try.prog) (w := w) (by kernel_rfl)) fun a7 hs8 => ?_
  refine nd_v (i := 4) (c := 9) 44 (.agg #[.int .i64 x6.f0, .int .i64 x6.f1, .int .i64 x6.f2, .string x6.f3, .int .u8 x6.f4, .bool x6.f5]) hs8 (by kernel_rfl) (ldN_run (P := Try.prog) (ad := ad6) (l := [.int .i64 x6.f0, .int .i64 x6.f1, .int .i64 x6.f2, .string x6.f3, .int .u8 x6.f4, .bool x6.f5]) 6 rfl (by kernel_rfl) (hB6.all hst)) fun a9 hs10 => ?_
  obtain ⟨hx12, _⟩ | ⟨b13, y11, hx12, rfl, ho14⟩ := h_c'5
  · exact (onPtr_none hx12 hr).elim
  replace hr := onPtr_some hx12 hr
  refine nd_op (op_call (some 45) hs10 (by kernel_rfl) (by kernel_rfl) ((f15_ok hst ho14 hf6_0 hf6_1 hf6_2 hf6_3 hf6_4 hr).mono ?_))
  rintro _ w16 ⟨r15, I15_i0, hst19, rfl, hf15_0_0, hf15_1_0, hf15_1_1, hf15_1_2, hf15_2_0, hf15_i0, hr⟩
  revert hr; intro hr
  refine ⟨_, rfl, fun a17 hs18 => ?_⟩
  refine nd_q (c := 4) 4 [1, 5, 7, 8, 46, 47, 48] hs18 [(1, .slice a_list'1 list'1.length c_list'1), (5, .pointer (some ⟨b13, 0, none⟩)), (7, .int .i64 next'7), (8, .int .i64 i'8), (46, .int .i64 r15.1), (47, .agg #[.int .i64 r15.2.1.f0, .int .i64 r15.2.1.f1, .string r15.2.1.f2]), (48, .int .i64 r15.2.2.1)] (by kernel_rfl) fun a22 hs23 => ?_
  have hst26 := hst19.alloc (.cells [.int .i64 (0 : Int), .int .i64 (0 : Int), .string ByteArray.empty].toArray 37 (0, 0))
  refine nd_op (op_v (w' := w16.alloc (.cells [.int .i64 (0 : Int), .int .i64 (0 : Int), .string ByteArray.empty].toArray 37 (0, 0))) (some 10) (.pointer (some ⟨w16.heap.size, 0, none⟩)) hs23 (by kernel_rfl) (by kernel_rfl) fun a27 hs28 => ?_)
  generalize w16.heap.size = b24 at hst26 hs28
  generalize w16.alloc (.cells [.int .i64 (0 : Int), .int .i64 (0 : Int), .string ByteArray.empty].toArray 37 (0, 0)) = w25 at hst26 ⊢
  refine nd_q (c := 2) 1 [1, 5, 7, 8, 9, 10, 47, 48] hs28 [(1, .slice a_list'1 list'1.length c_list'1), (5, .pointer (some ⟨b13, 0, none⟩)), (7, .int .i64 next'7), (8, .int .i64 i'8), (9, .int .i64 r15.1), (10, .pointer (some ⟨b24, 0, none⟩)), (47, .agg #[.int .i64 r15.2.1.f0, .int .i64 r15.2.1.f1, .string r15.2.1.f2]), (48, .int .i64 r15.2.2.1)] (by kernel_rfl) fun a29 hs30 => ?_
  obtain ⟨wq31, hxq31, hstq31⟩ := stq_run (P := Try.prog) (o := opAt (rops (sub [1, 1, 1, 1, 1, 0, 1, 0, 0, 1, 0, 0, 0] f5_c)) 12) (ρ := Env.rho hs30.env) (off := 0) (vs := [.int .i64 r15.2.1.f0, .int .i64 r15.2.1.f1, .string r15.2.1.f2]) (by kernel_rfl) (by kernel_rfl) (Nat.le_of_ble_eq_true rfl) hst26 [.int .i64 r15.2.1.f0, .int .i64 r15.2.1.f1, .string r15.2.1.f2] rfl
  refine nd_op (op_s none hs30 (by kernel_rfl) hxq31 fun a32 hs33 => ?_)
  refine nd_q (c := 0) 1 [1, 5, 7, 8, 9, 11] hs33 [(1, .slice a_list'1 list'1.length c_list'1), (5, .pointer (some ⟨b13, 0, none⟩)), (7, .int .i64 next'7), (8, .int .i64 i'8), (9, .int .i64 r15.1), (11, .int .i64 r15.2.2.1)] (by kernel_rfl) fun a34 hs35 => ?_
  refine nd_done ?_
  refine to_seq (sub [1, 1, 1, 1, 1, 0, 1, 0, 0, 1, 0, 0, 1, 0] f5_c) (sub [1, 1, 1, 1, 1, 0, 1, 0, 0, 1, 0, 0, 1, 1] f5_c) (by kernel_rfl) ?_
  refine to_seq (sub [1, 1, 1, 1, 1, 0, 1, 0, 0, 1, 0, 0, 1, 0, 0] f5_c) (sub [1, 1, 1, 1, 1, 0, 1, 0, 0, 1, 0, 0, 1, 0, 1] f5_c) (by kernel_rfl) ?_
  refine to_nd 11 18 (rops (sub [1, 1, 1, 1, 1, 0, 1, 0, 0, 1, 0, 0, 1, 0, 0] f5_c)) (by kernel_rfl) (by kernel_rfl) ?_
  refine nd_q (c := 15) 3 [1, 5, 7, 8, 9, 51] hs35 [(1, .slice a_list'1 list'1.length c_list'1), (5, .pointer (some ⟨b13, 0, none⟩)), (7, .int .i64 next'7), (8, .int .i64 i'8), (9, .int .i64 r15.1), (51, .bool (r15.2.2.1 == (0 : Int)))] (by kernel_rfl) fun a36 hs37 => ?_
  by_cases hb38 : r15.2.2.1 = (0 : Int)
  rotate_left
  · rw [if_neg hb38] at hr
    rw [(eqF hb38)] at hs37
    refine nd_q (c := 0) 15 [1, 5, 7, 8, 9, 66] hs37 [(1, .slice a_list'1 list'1.length c_list'1), (5, .pointer (some ⟨b13, 0, none⟩)), (7, .int .i64 next'7), (8, .int .i64 i'8), (9, .int .i64 r15.1), (66, .bool false)] (by kernel_rfl) fun a68 hs69 => ?_
    refine nd_done ?_
    have hst70 := W.St.drop [] hstq31
    have hs71 := hs69.kept [1, 5, 7, 8, 9, 66] [(1, .slice a_list'1 list'1.length c_list'1), (5, .pointer (some ⟨b13, 0, none⟩)), (7, .int .i64 next'7), (8, .int .i64 i'8), (9, .int .i64 r15.1), (66, .bool false)] (by kernel_rfl)
    exact f5_j3_ok hbf hbk h_list'1  hQ hX hr hm0 hst70 hs71 hf15_i0 h_next'7 h_i'8 hf15_0_0
  rw [if_pos hb38] at hr
  rw [(eqT hb38)] at hs37
  refine nd_q (c := 13) 2 [1, 5, 7, 8, 9, 51, 52, 53] hs37 [(1, .slice a_list'1 list'1.length c_list'1), (5, .pointer (some ⟨b13, 0, none⟩)), (7, .int .i64 next'7), (8, .int .i64 i'8), (9, .int .i64 r15.1), (51, .bool true), (52, .slice a_list'1 list'1.length c_list'1), (53, .int .i64 i'8)] (by kernel_rfl) fun a39 hs40 => ?_
  obtain ⟨x41, hx41, hr⟩ := ofO_el hr
  obtain ⟨ad41, c41, hA41, hR41, hX41⟩ := Row.ix (h_list'1.mono hm0).1 hx41
  obtain ⟨he41, hf41_0, hf41_1, hf41_2, hf41_3, hf41_4⟩ := k40_open hR41
  have hB41 := hA41.conv he41
  refine nd_v (i := 5) (c := 12) 54 (.pointer (some ad41)) hs40 (by kernel_rfl) (hX41 (P := Try.prog) (w := wq31) (by kernel_rfl)) fun a42 hs43 => ?_
  refine nd_q (c := 11) 1 [1, 5, 7, 8, 9, 51, 55] hs43 [(1, .slice a_list'1 list'1.length c_list'1), (5, .pointer (some ⟨b13, 0, none⟩)), (7, .int .i64 next'7), (8, .int .i64 i'8), (9, .int .i64 r15.1), (51, .bool true), (55, .pointer (some ad41))] (by kernel_rfl) fun a44 hs45 => ?_
  refine nd_v (i := 7) (c := 10) 56 (.int .i64 x41.f0) hs45 (by kernel_rfl) (ld1_run (P := Try.prog) (ad := ad41) (by kernel_rfl) (hB41.cell0 hstq31 (Nat.le_of_ble_eq_true rfl))) fun a46 hs47 => ?_
  refine nd_q (c := 8) 2 [1, 5, 7, 8, 9, 51, 58] hs47 [(1, .slice a_list'1 list'1.length c_list'1), (5, .pointer (some ⟨b13, 0, none⟩)), (7, .int .i64 next'7), (8, .int .i64 i'8), (9, .int .i64 r15.1), (51, .bool true), (58, .bool (x41.f0 == (0 : Int)))] (by kernel_rfl) fun a48 hs49 => ?_
  by_cases hb50 : x41.f0 = (0 : Int)
  · rw [if_pos hb50] at hr
    rw [(eqT hb50)] at hs49
    refine nd_q (c := 0) 8 [1, 5, 7, 8, 9, 66] hs49 [(1, .slice a_list'1 list'1.length c_list'1), (5, .pointer (some ⟨b13, 0, none⟩)), (7, .int .i64 next'7), (8, .int .i64 i'8), (9, .int .i64 r15.1), (66, .bool true)] (by kernel_rfl) fun a51 hs52 => ?_
    refine nd_done ?_
    have hst53 := W.St.drop [] hstq31
    have hs54 := hs52.kept [1, 5, 7, 8, 9, 66] [(1, .slice a_list'1 list'1.length c_list'1), (5, .pointer (some ⟨b13, 0, none⟩)), (7, .int .i64 next'7), (8, .int .i64 i'8), (9, .int .i64 r15.1), (66, .bool true)] (by kernel_rfl)
    exact f5_j3_ok hbf hbk h_list'1  hQ hX hr hm0 hst53 hs54 hf15_i0 h_next'7 h_i'8 hf15_0_0
  rw [if_neg hb50] at hr
  rw [(eqF hb50)] at hs49
  refine nd_q (c := 6) 2 [1, 5, 7, 8, 9, 51, 58, 59, 60] hs49 [(1, .slice a_list'1 list'1.length c_list'1), (5, .pointer (some ⟨b13, 0, none⟩)), (7, .int .i64 next'7), (8, .int .i64 i'8), (9, .int .i64 r15.1), (51, .bool true), (58, .bool false), (59, .slice a_list'1 list'1.length c_list'1), (60, .int .i64 i'8)] (by kernel_rfl) fun a55 hs56 => ?_
  obtain ⟨x57, hx57, hr⟩ := ofO_el hr
  obtain ⟨ad57, c57, hA57, hR57, hX57⟩ := Row.ix (h_list'1.mono hm0).1 hx57
  obtain ⟨he57, hf57_0, hf57_1, hf57_2, hf57_3, hf57_4⟩ := k40_open hR57
  have hB57 := hA57.conv he57
  refine nd_v (i := 12) (c := 5) 61 (.pointer (some ad57)) hs56 (by kernel_rfl) (hX57 (P := Try.prog) (w := wq31) (by kernel_rfl)) fun a58 hs59 => ?_
  refine nd_q (c := 4) 1 [1, 5, 7, 8, 9, 51, 58, 62] hs59 [(1, .slice a_list'1 list'1.length c_list'1), (5, .pointer (some ⟨b13, 0, none⟩)), (7, .int .i64 next'7), (8, .int .i64 i'8), (9, .int .i64 r15.1), (51, .bool true), (58, .bool false), (62, .pointer (some ad57))] (by kernel_rfl) fun a60 hs61 => ?_
  refine nd_v (i := 14) (c := 3) 63 (.int .i64 x57.f0) hs61 (by kernel_rfl) (ld1_run (P := Try.prog) (ad := ad57) (by kernel_rfl) (hB57.cell0 hstq31 (Nat.le_of_ble_eq_true rfl))) fun a62 hs63 => ?_
  refine nd_q (c := 0) 3 [1, 5, 7, 8, 9, 66] hs63 [(1, .slice a_list'1 list'1.length c_list'1), (5, .pointer (some ⟨b13, 0, none⟩)), (7, .int .i64 next'7), (8, .int .i64 i'8), (9, .int .i64 r15.1), (66, .bool (x57.f0 == (3 : Int)))] (by kernel_rfl) fun a64 hs65 => ?_
  refine nd_done ?_
  have hst66 := W.St.drop [] hstq31
  have hs67 := hs65.kept [1, 5, 7, 8, 9, 66] [(1, .slice a_list'1 list'1.length c_list'1), (5, .pointer (some ⟨b13, 0, none⟩)), (7, .int .i64 next'7), (8, .int .i64 i'8), (9, .int .i64 r15.1), (66, .bool (x57.f0 == (3 : Int)))] (by kernel_rfl)
  exact f5_j3_ok hbf hbk h_list'1  hQ hX hr hm0 hst66 hs67 hf15_i0 h_next'7 h_i'8 hf15_0_0
def f5_j1_Y (z : Base) (m0 : Mem) (G : List Grp) (b : Frame) (cs : List Frame) (R : Ending → World → Prop) (a_x1 : Option Addr) (c_x1 : Nat) (x0 : Int) (x1 : (List S40)) (c'5 : (Option S62)) (t'32 : Bool) : Prop := ∀ {m : Mem} {w : World} {a : Act} {p_c'5 : Option Addr} {I_c'5 : Grp}, m0.le m → W.St z w m (I_c'5 :: G) → Has 151 a [(1, .slice a_x1 x1.length c_x1), (5, .pointer p_c'5), (32, .bool t'32)] → (OwnN62 m p_c'5 I_c'5 c'5) → Reach Try.prog b cs R [.code (sub [1, 1, 1, 0, 1] f5_c), .code (sub [1, 1, 1, 1] f5_c)] a w
def f5_j1 (x0 : Int) (x1 : (List S40)) (Q : Bool → Prop) (c'5 : (Option S62)) (t'32 : Bool) : Prop := if t'32 = true then (Q true) else (f5_l2 x1 (Q true) Q c'5 (0 : Int) (0 : Int))
theorem f5_j1_ok {z : Base} {m0 : Mem} {G : List Grp} {b : Frame} {cs : List Frame} {R : Ending → World → Prop} {a_x1 : Option Addr} {c_x1 : Nat} {x0 : Int} {x1 : (List S40)} {Q : Bool → Prop} (hbf : b.fn = 5) (hbk : b.kind = .normal) (h_x0 : InR .i64 x0) (h_x1 : Sl k40 48 m0 a_x1 c_x1 x1)  (hQ : ∀ {r : Bool}, Q r → f5_YR z m0 G R  r) : ∀ {c'5 : (Option S62)} {t'32 : Bool}, f5_j1 x0 x1 Q c'5 t'32 → f5_j1_Y z m0 G b cs R a_x1 c_x1 x0 x1 c'5 t'32 := by
  intro c'5 t'32 hr m w a0 p_c'5 I_c'5 hm0 hst hs0 h_c'5
  unfold f5_j1 at hr
  by_cases hb1 : t'32 = true
  · rw [if_pos hb1] at hr
    rw [(bT hb1)] at hs0
    refine to_then (.tmp 32) (sub [1, 1, 1, 0, 1, 0] f5_c) (sub [1, 1, 1, 0, 1, 1] f5_c) (by kernel_rfl) hs0 (by kernel_rfl) ?_
    refine to_seq (sub [1, 1, 1, 0, 1, 0, 0] f5_c) (sub [1, 1, 1, 0, 1, 0, 1] f5_c) (by kernel_rfl) ?_
    refine to_nd 5 1 (rops (sub [1, 1, 1, 0, 1, 0, 0] f5_c)) (by kernel_rfl) (by kernel_rfl) ?_
    refine nd_q (c := 0) 1 [4] hs0 [(4, .bool true)] (by kernel_rfl) fun a2 hs3 => ?_
    refine nd_done ?_
    have hst4 := W.St.drop [] hst
    exact to_ret (v := .bool true) (by kernel_rfl) hbf Try.func5 hbk hs3 (by kernel_rfl) (hQ hr hm0 hst4 )
  rw [if_neg hb1] at hr
  rw [(bF hb1)] at hs0
  refine to_else (.tmp 32) (sub [1, 1, 1, 0, 1, 0] f5_c) (sub [1, 1, 1, 0, 1, 1] f5_c) (by kernel_rfl) hs0 (by kernel_rfl) ?_
  refine to_skip (by kernel_rfl) ?_
  refine to_seq (sub [1, 1, 1, 1, 0] f5_c) (sub [1, 1, 1, 1, 1] f5_c) (by kernel_rfl) ?_
  refine to_nd 6 1 (rops (sub [1, 1, 1, 1, 0] f5_c)) (by kernel_rfl) (by kernel_rfl) ?_
  refine nd_q (c := 0) 1 [1, 5, 7] hs0 [(1, .slice a_x1 x1.length c_x1), (5, .pointer p_c'5), (7, .int .i64 (0 : Int))] (by kernel_rfl) fun a5 hs6 => ?_
  refine nd_done ?_
  refine to_seq (sub [1, 1, 1, 1, 1, 0] f5_c) (sub [1, 1, 1, 1, 1, 1] f5_c) (by kernel_rfl) ?_
  refine to_seq (sub [1, 1, 1, 1, 1, 0, 0] f5_c) (sub [1, 1, 1, 1, 1, 0, 1] f5_c) (by kernel_rfl) ?_
  refine to_nd 7 1 (rops (sub [1, 1, 1, 1, 1, 0, 0] f5_c)) (by kernel_rfl) (by kernel_rfl) ?_
  refine nd_q (c := 0) 1 [1, 5, 7, 8] hs6 [(1, .slice a_x1 x1.length c_x1), (5, .pointer p_c'5), (7, .int .i64 (0 : Int)), (8, .int .i64 (0 : Int))] (by kernel_rfl) fun a7 hs8 => ?_
  refine nd_done ?_
  refine to_block 0 (sub [1, 1, 1, 1, 1, 0, 1, 0] f5_c) (by kernel_rfl) ?_
  refine to_loop (sub [1, 1, 1, 1, 1, 0, 1, 0, 0] f5_c) (by kernel_rfl) ?_
  have hs9 := hs8.kept [1, 5, 7, 8] [(1, .slice a_x1 x1.length c_x1), (5, .pointer p_c'5), (7, .int .i64 (0 : Int)), (8, .int .i64 (0 : Int))] (by kernel_rfl)
  refine f5_l2_ok hbf hbk (h_x1.mono hm0)  ?_ (fun hq => f5_YR_mono hm0 (hQ hq)) hr (Mem.le.refl _) hst hs9 h_c'5 (inr_of (by kernel_rfl)) (inr_of (by kernel_rfl))
  intro _ hr
  intro m11 w13 a15  hm12 hst14 hs16 
  refine to_seq (sub [1, 1, 1, 1, 1, 1, 0] f5_c) (sub [1, 1, 1, 1, 1, 1, 1] f5_c) (by kernel_rfl) ?_
  refine to_nd 29 1 (rops (sub [1, 1, 1, 1, 1, 1, 0] f5_c)) (by kernel_rfl) (by kernel_rfl) ?_
  refine nd_q (c := 0) 1 [4] hs16 [(4, .bool true)] (by kernel_rfl) fun a17 hs18 => ?_
  refine nd_done ?_
  exact to_ret (v := .bool true) (by kernel_rfl) hbf Try.func5 hbk hs18 (by kernel_rfl) (hQ hr (hm0.trans hm12) hst14 )
def f5  (x0 : Int) (x1 : (List S40)) : M Bool := fun Q => f9 fun r3 => if r3 = true then (f10 x0 fun r15 => if r15.2 = (0 : Int) then (f13 x1 (60 : Int) fun r29 => f5_j1 x0 x1 Q r15.1 (!r29)) else (f5_j1 x0 x1 Q r15.1 true)) else (Q false)
theorem f5_ok  {z : Base} {w : World} {m : Mem} {G : List Grp} {a_x1 : Option Addr} {c_x1 : Nat} {x0 : Int} {x1 : (List S40)} {Q : Bool → Prop} (hst : W.St z w m (G)) (h_x0 : InR .i64 x0) (h_x1 : Sl k40 48 m a_x1 c_x1 x1) (hr : f5  x0 x1 Q) : Calls Try.prog 5 #[.int .i64 x0, .slice a_x1 x1.length c_x1] w (f5_post z m G  Q) := by
  refine calls_begin (c := f5_c) (n := 151) [.int .i64 x0, .slice a_x1 x1.length c_x1] Try.func5 (by kernel_rfl) Try.ntmps5 (Nat.le_of_ble_eq_true rfl) fun b cs a0 hbf hbk hs0 => ?_
  have hm0 := Mem.le.refl m
  have hQ : ∀ {r : Bool}, Q r → f5_YR z m G (f5_post z m G  Q)  r := by intro r hq m' w'  hm' hst' ; exact ⟨r,  W.St.less hm' hst', rfl, hq⟩
  unfold f5 at hr
  refine to_seq (sub [0] f5_c) (sub [1] f5_c) (by kernel_rfl) ?_
  refine to_nd 0 1 (rops (sub [0] f5_c)) (by kernel_rfl) (by kernel_rfl) ?_
  refine nd_q (c := 0) 1 [0, 1] hs0 [(0, .int .i64 x0), (1, .slice a_x1 x1.length c_x1)] (by kernel_rfl) fun a1 hs2 => ?_
  refine nd_done ?_
  refine to_seq (sub [1, 0] f5_c) (sub [1, 1] f5_c) (by kernel_rfl) ?_
  refine to_seq (sub [1, 0, 0] f5_c) (sub [1, 0, 1] f5_c) (by kernel_rfl) ?_
  refine to_nd 1 2 (rops (sub [1, 0, 0] f5_c)) (by kernel_rfl) (by kernel_rfl) ?_
  refine nd_op (op_call (some 19) hs2 (by kernel_rfl) (by kernel_rfl) ((f9_ok hst hr).mono ?_))
  rintro _ w4 ⟨r3, hst7, rfl, hr⟩
  revert hr; intro hr
  refine ⟨_, rfl, fun a5 hs6 => ?_⟩
  refine nd_q (c := 0) 1 [0, 1, 20] hs6 [(0, .int .i64 x0), (1, .slice a_x1 x1.length c_x1), (20, .bool (!r3))] (by kernel_rfl) fun a10 hs11 => ?_
  refine nd_done ?_
  by_cases hb12 : r3 = true
  rotate_left
  · rw [if_neg hb12] at hr
    rw [(bF hb12)] at hs11
    refine to_then (.tmp 20) (sub [1, 0, 1, 0] f5_c) (sub [1, 0, 1, 1] f5_c) (by kernel_rfl) hs11 (by kernel_rfl) ?_
    refine to_seq (sub [1, 0, 1, 0, 0] f5_c) (sub [1, 0, 1, 0, 1] f5_c) (by kernel_rfl) ?_
    refine to_nd 2 1 (rops (sub [1, 0, 1, 0, 0] f5_c)) (by kernel_rfl) (by kernel_rfl) ?_
    refine nd_q (c := 0) 1 [4] hs11 [(4, .bool false)] (by kernel_rfl) fun a42 hs43 => ?_
    refine nd_done ?_
    exact to_ret (v := .bool false) (by kernel_rfl) hbf Try.func5 hbk hs43 (by kernel_rfl) (hQ hr (Mem.le.refl _) hst7 )
  rw [if_pos hb12] at hr
  rw [(bT hb12)] at hs11
  refine to_else (.tmp 20) (sub [1, 0, 1, 0] f5_c) (sub [1, 0, 1, 1] f5_c) (by kernel_rfl) hs11 (by kernel_rfl) ?_
  refine to_skip (by kernel_rfl) ?_
  refine to_seq (sub [1, 1, 0] f5_c) (sub [1, 1, 1] f5_c) (by kernel_rfl) ?_
  refine to_nd 3 7 (rops (sub [1, 1, 0] f5_c)) (by kernel_rfl) (by kernel_rfl) ?_
  refine nd_q (c := 6) 1 [1, 22] hs11 [(1, .slice a_x1 x1.length c_x1), (22, .int .i64 x0)] (by kernel_rfl) fun a13 hs14 => ?_
  refine nd_op (op_call (some 23) hs14 (by kernel_rfl) (by kernel_rfl) ((f10_ok hst7 h_x0 hr).mono ?_))
  rintro _ w16 ⟨r15, p15_0_0, I15_0_0, hst19, rfl, hf15_0_0, hf15_1_0, hr⟩
  revert hr; intro hr
  refine ⟨_, rfl, fun a17 hs18 => ?_⟩
  refine nd_q (c := 0) 5 [1, 5, 6] hs18 [(1, .slice a_x1 x1.length c_x1), (5, .pointer p15_0_0), (6, .int .i64 r15.2)] (by kernel_rfl) fun a22 hs23 => ?_
  refine nd_done ?_
  refine to_seq (sub [1, 1, 1, 0] f5_c) (sub [1, 1, 1, 1] f5_c) (by kernel_rfl) ?_
  refine to_seq (sub [1, 1, 1, 0, 0] f5_c) (sub [1, 1, 1, 0, 1] f5_c) (by kernel_rfl) ?_
  refine to_nd 4 7 (rops (sub [1, 1, 1, 0, 0] f5_c)) (by kernel_rfl) (by kernel_rfl) ?_
  refine nd_q (c := 4) 3 [1, 5, 28] hs23 [(1, .slice a_x1 x1.length c_x1), (5, .pointer p15_0_0), (28, .bool (r15.2 != (0 : Int)))] (by kernel_rfl) fun a24 hs25 => ?_
  by_cases hb26 : r15.2 = (0 : Int)
  rotate_left
  · rw [if_neg hb26] at hr
    rw [(neT hb26)] at hs25
    refine nd_q (c := 0) 4 [1, 5, 32] hs25 [(1, .slice a_x1 x1.length c_x1), (5, .pointer p15_0_0), (32, .bool true)] (by kernel_rfl) fun a39 hs40 => ?_
    refine nd_done ?_
    have hs41 := hs40.kept [1, 5, 32] [(1, .slice a_x1 x1.length c_x1), (5, .pointer p15_0_0), (32, .bool true)] (by kernel_rfl)
    exact f5_j1_ok hbf hbk h_x0 h_x1  hQ hr (Mem.le.refl _) hst19 hs41 hf15_0_0
  rw [if_pos hb26] at hr
  rw [(neF hb26)] at hs25
  refine nd_q (c := 3) 1 [1, 5, 28, 29] hs25 [(1, .slice a_x1 x1.length c_x1), (5, .pointer p15_0_0), (28, .bool false), (29, .slice a_x1 x1.length c_x1)] (by kernel_rfl) fun a27 hs28 => ?_
  refine nd_op (op_call (some 30) hs28 (by kernel_rfl) (by kernel_rfl) ((f13_ok hst19 h_x1 (inr_of (by kernel_rfl)) hr).mono ?_))
  rintro _ w30 ⟨r29, hst33, rfl, hr⟩
  revert hr; intro hr
  refine ⟨_, rfl, fun a31 hs32 => ?_⟩
  refine nd_q (c := 0) 2 [1, 5, 32] hs32 [(1, .slice a_x1 x1.length c_x1), (5, .pointer p15_0_0), (32, .bool (!r29))] (by kernel_rfl) fun a36 hs37 => ?_
  refine nd_done ?_
  have hs38 := hs37.kept [1, 5, 32] [(1, .slice a_x1 x1.length c_x1), (5, .pointer p15_0_0), (32, .bool (!r29))] (by kernel_rfl)
  exact f5_j1_ok hbf hbk h_x0 h_x1  hQ hr (Mem.le.refl _) hst33 hs38 hf15_0_0
def PureChannelKeeps : Prop := ∀ (x0 : Int) (x1 : (List S40)), (InR .i64) x0 → (WL W40 48) x1 →  f5 x0 x1 (fun r => r = true)
end Go.Proofs.Ytcnlbnccghjeaaa.W
