/- Printed by gen2.py: Go functions as Lean functions, and the proofs that the calls come to them. Conditions: none. -/
import Derived.Test.YtcnlbnccghjeaaaF1
set_option linter.unusedVariables false
set_option linter.unusedSimpArgs false
set_option maxRecDepth 100000
namespace Go.Proofs.Ytcnlbnccghjeaaa.W
open Go

/-! ### 17: salchow/salchowref50.Same -/
noncomputable def f17_c : Code := codeOf Try.f17
def f17_post (z : Base) (m : Mem) (G : List Grp)  (Q : Bool → Prop) : Ending → World → Prop := fun e w' => ∃ (r : Bool) , W.St z w' m (G) ∧ e = .returned (.bool r) ∧ Q r
def f17_YR (z : Base) (m0 : Mem) (G : List Grp) (R : Ending → World → Prop)  (r : Bool) : Prop := ∀ {m : Mem} {w : World} , m0.le m → W.St z w m (G) →  R (.returned (.bool r)) w
theorem f17_YR_mono {z : Base} {m0 m1 : Mem} {G : List Grp} {R : Ending → World → Prop}  {r : Bool} (hm : m0.le m1) (h : f17_YR z m0 G R  r) : f17_YR z m1 G R  r := by
  intro m w  hm'
  exact h (hm.trans hm')
def f17_l1_Y (z : Base) (m0 : Mem) (G : List Grp) (b : Frame) (cs : List Frame) (R : Ending → World → Prop) (a_a'0 : Option Addr) (c_a'0 : Nat) (a_b'1 : Option Addr) (c_b'1 : Nat) (a'0 : (List Int)) (b'1 : (List Int)) (i'5 : Int) : Prop := ∀ {m : Mem} {w : World} {a : Act} , m0.le m → W.St z w m (G) → Has 26 a [(0, .slice a_a'0 a'0.length c_a'0), (1, .slice a_b'1 b'1.length c_b'1), (5, .int .i64 i'5)] → (InR .i64 i'5) → Reach Try.prog b cs R [.code (sub [1, 1, 0, 1, 0, 0] f17_c), .inLoop (sub [1, 1, 0, 1, 0, 0] f17_c), .inBlock 0, .code (sub [1, 1, 1] f17_c)] a w
def f17_l1_Yk1 (z : Base) (m0 : Mem) (G : List Grp) (b : Frame) (cs : List Frame) (R : Ending → World → Prop) (a_a'0 : Option Addr) (c_a'0 : Nat) (a_b'1 : Option Addr) (c_b'1 : Nat) (a'0 : (List Int)) (b'1 : (List Int))  : Prop := ∀ {m : Mem} {w : World} {a : Act} , m0.le m → W.St z w m (G) → Has 26 a [] →  Reach Try.prog b cs R [.code (sub [1, 1, 1] f17_c)] a w
def f17_l1_b (a'0 : (List Int)) (b'1 : (List Int)) (k1 : Prop) (Q : Bool → Prop) (X : Int → Prop) (i'5 : Int) : Prop := if i'5 < (a'0.length : Int) then (ofO (ix a'0 i'5) fun x14 => ofO (ix b'1 i'5) fun x27 => if x14 = x27 then (X (w64 (i'5 + (1 : Int)))) else (Q false)) else (k1)
def f17_l1 (a'0 : (List Int)) (b'1 : (List Int)) (k1 : Prop) (Q : Bool → Prop) (i'5 : Int) : Prop := ∀ X : Int → Prop, (∀ {i'5 : Int}, f17_l1_b a'0 b'1 k1 Q X i'5 → X i'5) → X i'5
theorem f17_l1_ok {z : Base} {m0 : Mem} {G : List Grp} {b : Frame} {cs : List Frame} {R : Ending → World → Prop} {a_a'0 : Option Addr} {c_a'0 : Nat} {a_b'1 : Option Addr} {c_b'1 : Nat} {a'0 : (List Int)} {b'1 : (List Int)} {k1 : Prop} {Q : Bool → Prop}  (hbf : b.fn = 17) (hbk : b.kind = .normal) (h_a'0 : Sl (kInt .i64) 8 m0 a_a'0 c_a'0 a'0) (h_b'1 : Sl (kInt .i64) 8 m0 a_b'1 c_b'1 b'1)  (hk1 : ∀ (_u : Unit), k1  → f17_l1_Yk1 z m0 G b cs R a_a'0 c_a'0 a_b'1 c_b'1 a'0 b'1 ) (hQ : ∀ {r : Bool}, Q r → f17_YR z m0 G R  r) : ∀ {i'5 : Int}, f17_l1 a'0 b'1 k1 Q i'5 → f17_l1_Y z m0 G b cs R a_a'0 c_a'0 a_b'1 c_b'1 a'0 b'1 i'5 := by
  intro i'5 hr
  refine hr (f17_l1_Y z m0 G b cs R a_a'0 c_a'0 a_b'1 c_b'1 a'0 b'1) ?_
  intro i'5 hr m w a0  hm0 hst hs0 h_i'5
  have hX : ∀ {i'5 : Int}, f17_l1_Y z m0 G b cs R a_a'0 c_a'0 a_b'1 c_b'1 a'0 b'1 i'5 → f17_l1_Y z m0 G b cs R a_a'0 c_a'0 a_b'1 c_b'1 a'0 b'1 i'5 := fun h => h
  unfold f17_l1_b at hr
  refine to_seq (sub [1, 1, 0, 1, 0, 0, 0] f17_c) (sub [1, 1, 0, 1, 0, 0, 1] f17_c) (by kernel_rfl) ?_
  refine to_seq (sub [1, 1, 0, 1, 0, 0, 0, 0] f17_c) (sub [1, 1, 0, 1, 0, 0, 0, 1] f17_c) (by kernel_rfl) ?_
  refine to_nd 4 4 (rops (sub [1, 1, 0, 1, 0, 0, 0, 0] f17_c)) (by kernel_rfl) (by kernel_rfl) ?_
  refine nd_q (c := 0) 4 [0, 1, 5, 14] hs0 [(0, .slice a_a'0 a'0.length c_a'0), (1, .slice a_b'1 b'1.length c_b'1), (5, .int .i64 i'5), (14, .bool (decide (i'5 < (a'0.length : Int))))] (by kernel_rfl) fun a1 hs2 => ?_
  refine nd_done ?_
  by_cases hb3 : i'5 < (a'0.length : Int)
  rotate_left
  · rw [if_neg hb3] at hr
    rw [(decide_eq_false hb3)] at hs2
    refine to_else (.tmp 14) (sub [1, 1, 0, 1, 0, 0, 0, 1, 0] f17_c) (sub [1, 1, 0, 1, 0, 0, 0, 1, 1] f17_c) (by kernel_rfl) hs2 (by kernel_rfl) ?_
    refine to_exit 0 (by kernel_rfl) [.code (sub [1, 1, 1] f17_c)] rfl ?_
    have hs45 := hs2.kept [] [] (by kernel_rfl)
    exact hk1 () hr hm0 hst hs45 
  rw [if_pos hb3] at hr
  rw [(decide_eq_true hb3)] at hs2
  refine to_then (.tmp 14) (sub [1, 1, 0, 1, 0, 0, 0, 1, 0] f17_c) (sub [1, 1, 0, 1, 0, 0, 0, 1, 1] f17_c) (by kernel_rfl) hs2 (by kernel_rfl) ?_
  refine to_skip (by kernel_rfl) ?_
  refine to_seq (sub [1, 1, 0, 1, 0, 0, 1, 0] f17_c) (sub [1, 1, 0, 1, 0, 0, 1, 1] f17_c) (by kernel_rfl) ?_
  refine to_block 1 (sub [1, 1, 0, 1, 0, 0, 1, 0, 0] f17_c) (by kernel_rfl) ?_
  refine to_seq (sub [1, 1, 0, 1, 0, 0, 1, 0, 0, 0] f17_c) (sub [1, 1, 0, 1, 0, 0, 1, 0, 0, 1] f17_c) (by kernel_rfl) ?_
  have hs4 := hs2.kept [0, 1, 5] [(0, .slice a_a'0 a'0.length c_a'0), (1, .slice a_b'1 b'1.length c_b'1), (5, .int .i64 i'5)] (by kernel_rfl)
  refine to_dr 6 9 (rops (sub [1, 1, 0, 1, 0, 0, 1, 0, 0, 0] f17_c)) (by kernel_rfl) (by kernel_rfl) (by kernel_rfl) [] (fun w => Go.Proofs.Ytcnlbnccghjeaaa.W.St z w m (G)) (fun _ _ => True) fun hd5 => ?_
  have hst7 := hst.drawn (w.drawn + 1)
  generalize hw8 : ({ w with drawn := w.drawn + 1 } : World) = w6 at hst7 ⊢
  clear hw8
  refine dr_q (fuel := 7) [0, 1] [0, 1, 5, 17, 18] [] hs4 hd5 ⟨hst7, fun _ hx => by cases hx⟩ (by kernel_rfl) (by kernel_rfl) ([(18, .int .i64 i'5), (17, .slice a_a'0 a'0.length c_a'0)] ++ [(0, .slice a_a'0 a'0.length c_a'0), (1, .slice a_b'1 b'1.length c_b'1), (5, .int .i64 i'5)]) [(0, .slice a_a'0 a'0.length c_a'0), (1, .slice a_b'1 b'1.length c_b'1), (5, .int .i64 i'5), (17, .slice a_a'0 a'0.length c_a'0), (18, .int .i64 i'5)] (by kernel_rfl) (by kernel_rfl) (fun _ hx => by cases hx) (fun w hT _ => by kernel_rfl) fun a9 hs10 hd11 hS12 => ?_
  obtain ⟨x14, hx14, hr⟩ := ofO_el hr
  obtain ⟨ad14, c14, hA14, hR14, hX14⟩ := Row.ix (h_a'0.mono hm0).1 hx14
  obtain ⟨he14, hf14⟩ := kInt_open hR14
  have hB14 := hA14.conv he14
  refine dr_vp (fuel := 6) 2 19 (.pointer (some ad14)) [] hs10 hd11 ⟨hst7, fun _ hx => by cases hx⟩ (by kernel_rfl) (by kernel_rfl) (by kernel_rfl) (fun _ hx => by cases hx) (by kernel_rfl) (fun w hT hF => hX14 (P := Try.prog) (w := w) (by kernel_rfl)) fun a15 hs16 hd13 hS17 => ?_
  refine dr_vp (fuel := 5) 3 20 (.int .i64 x14) [] hs16 hd13 ⟨hst7, fun _ hx => by cases hx⟩ (by kernel_rfl) (by kernel_rfl) (by kernel_rfl) (fun _ hx => by cases hx) (by kernel_rfl) (fun w hT hF => ld1_run (P := Try.prog) (ad := ad14) (by kernel_rfl) (hB14.cell0 hT (Nat.le_of_ble_eq_true rfl))) fun a19 hs20 hd18 hS21 => ?_
  refine dr_q (fuel := 3) [4, 5] [0, 1, 5, 20, 21, 22] [] hs20 hd18 ⟨hst7, fun _ hx => by cases hx⟩ (by kernel_rfl) (by kernel_rfl) ([(22, .int .i64 i'5), (21, .slice a_b'1 b'1.length c_b'1)] ++ ((20, .int .i64 x14) :: ((19, .pointer (some ad14)) :: [(0, .slice a_a'0 a'0.length c_a'0), (1, .slice a_b'1 b'1.length c_b'1), (5, .int .i64 i'5), (17, .slice a_a'0 a'0.length c_a'0), (18, .int .i64 i'5)]))) [(0, .slice a_a'0 a'0.length c_a'0), (1, .slice a_b'1 b'1.length c_b'1), (5, .int .i64 i'5), (20, .int .i64 x14), (21, .slice a_b'1 b'1.length c_b'1), (22, .int .i64 i'5)] (by kernel_rfl) (by kernel_rfl) (fun _ hx => by cases hx) (fun w hT _ => by kernel_rfl) fun a22 hs23 hd24 hS25 => ?_
  obtain ⟨x27, hx27, hr⟩ := ofO_el hr
  obtain ⟨ad27, c27, hA27, hR27, hX27⟩ := Row.ix (h_b'1.mono hm0).1 hx27
  obtain ⟨he27, hf27⟩ := kInt_open hR27
  have hB27 := hA27.conv he27
  refine dr_vp (fuel := 2) 6 23 (.pointer (some ad27)) [] hs23 hd24 ⟨hst7, fun _ hx => by cases hx⟩ (by kernel_rfl) (by kernel_rfl) (by kernel_rfl) (fun _ hx => by cases hx) (by kernel_rfl) (fun w hT hF => hX27 (P := Try.prog) (w := w) (by kernel_rfl)) fun a28 hs29 hd26 hS30 => ?_
  refine dr_vp (fuel := 1) 7 24 (.int .i64 x27) [] hs29 hd26 ⟨hst7, fun _ hx => by cases hx⟩ (by kernel_rfl) (by kernel_rfl) (by kernel_rfl) (fun _ hx => by cases hx) (by kernel_rfl) (fun w hT hF => ld1_run (P := Try.prog) (ad := ad27) (by kernel_rfl) (hB27.cell0 hT (Nat.le_of_ble_eq_true rfl))) fun a32 hs33 hd31 hS34 => ?_
  refine dr_q (fuel := 0) [8] [0, 1, 5, 25] [] hs33 hd31 ⟨hst7, fun _ hx => by cases hx⟩ (by kernel_rfl) (by kernel_rfl) ([(25, .bool (x14 != x27))] ++ ((24, .int .i64 x27) :: ((23, .pointer (some ad27)) :: [(0, .slice a_a'0 a'0.length c_a'0), (1, .slice a_b'1 b'1.length c_b'1), (5, .int .i64 i'5), (20, .int .i64 x14), (21, .slice a_b'1 b'1.length c_b'1), (22, .int .i64 i'5)]))) [(0, .slice a_a'0 a'0.length c_a'0), (1, .slice a_b'1 b'1.length c_b'1), (5, .int .i64 i'5), (25, .bool (x14 != x27))] (by kernel_rfl) (by kernel_rfl) (fun _ hx => by cases hx) (fun w hT _ => by kernel_rfl) fun a35 hs36 hd37 hS38 => ?_
  refine dr_done (by kernel_rfl) ?_
  by_cases hb39 : x14 = x27
  rotate_left
  · rw [if_neg hb39] at hr
    rw [(neT hb39)] at hs36
    refine to_then (.tmp 25) (sub [1, 1, 0, 1, 0, 0, 1, 0, 0, 1, 0] f17_c) (sub [1, 1, 0, 1, 0, 0, 1, 0, 0, 1, 1] f17_c) (by kernel_rfl) hs36 (by kernel_rfl) ?_
    refine to_seq (sub [1, 1, 0, 1, 0, 0, 1, 0, 0, 1, 0, 0] f17_c) (sub [1, 1, 0, 1, 0, 0, 1, 0, 0, 1, 0, 1] f17_c) (by kernel_rfl) ?_
    refine to_nd 7 1 (rops (sub [1, 1, 0, 1, 0, 0, 1, 0, 0, 1, 0, 0] f17_c)) (by kernel_rfl) (by kernel_rfl) ?_
    refine nd_q (c := 0) 1 [4] hs36 [(4, .bool false)] (by kernel_rfl) fun a43 hs44 => ?_
    refine nd_done ?_
    exact to_ret (v := .bool false) (by kernel_rfl) hbf Try.func17 hbk hs44 (by kernel_rfl) (hQ hr hm0 hst7 )
  rw [if_pos hb39] at hr
  rw [(neF hb39)] at hs36
  refine to_else (.tmp 25) (sub [1, 1, 0, 1, 0, 0, 1, 0, 0, 1, 0] f17_c) (sub [1, 1, 0, 1, 0, 0, 1, 0, 0, 1, 1] f17_c) (by kernel_rfl) hs36 (by kernel_rfl) ?_
  refine to_skip (by kernel_rfl) ?_
  refine reach_inBlock ?_
  refine to_nd 5 3 (rops (sub [1, 1, 0, 1, 0, 0, 1, 1] f17_c)) (by kernel_rfl) (by kernel_rfl) ?_
  refine nd_q (c := 0) 3 [0, 1, 5] hs36 [(0, .slice a_a'0 a'0.length c_a'0), (1, .slice a_b'1 b'1.length c_b'1), (5, .int .i64 (w64 (i'5 + (1 : Int))))] (by kernel_rfl) fun a40 hs41 => ?_
  refine nd_done ?_
  refine reach_inLoop ?_
  have hs42 := hs41.kept [0, 1, 5] [(0, .slice a_a'0 a'0.length c_a'0), (1, .slice a_b'1 b'1.length c_b'1), (5, .int .i64 (w64 (i'5 + (1 : Int))))] (by kernel_rfl)
  exact hX hr hm0 hst7 hs42 (wrap_in .i64 _)
def f17  (x0 : (List Int)) (x1 : (List Int)) : M Bool := fun Q => if (x0.length : Int) = (x1.length : Int) then (f17_l1 x0 x1 (Q true) Q (0 : Int)) else (Q false)
theorem f17_ok  {z : Base} {w : World} {m : Mem} {G : List Grp} {a_x0 : Option Addr} {c_x0 : Nat} {a_x1 : Option Addr} {c_x1 : Nat} {x0 : (List Int)} {x1 : (List Int)} {Q : Bool → Prop} (hst : W.St z w m (G)) (h_x0 : Sl (kInt .i64) 8 m a_x0 c_x0 x0) (h_x1 : Sl (kInt .i64) 8 m a_x1 c_x1 x1) (hr : f17  x0 x1 Q) : Calls Try.prog 17 #[.slice a_x0 x0.length c_x0, .slice a_x1 x1.length c_x1] w (f17_post z m G  Q) := by
  refine calls_begin (c := f17_c) (n := 26) [.slice a_x0 x0.length c_x0, .slice a_x1 x1.length c_x1] Try.func17 (by kernel_rfl) Try.ntmps17 (Nat.le_of_ble_eq_true rfl) fun b cs a0 hbf hbk hs0 => ?_
  have hm0 := Mem.le.refl m
  have hQ : ∀ {r : Bool}, Q r → f17_YR z m G (f17_post z m G  Q)  r := by intro r hq m' w'  hm' hst' ; exact ⟨r,  W.St.less hm' hst', rfl, hq⟩
  unfold f17 at hr
  refine to_seq (sub [0] f17_c) (sub [1] f17_c) (by kernel_rfl) ?_
  refine to_nd 0 1 (rops (sub [0] f17_c)) (by kernel_rfl) (by kernel_rfl) ?_
  refine nd_q (c := 0) 1 [0, 1] hs0 [(0, .slice a_x0 x0.length c_x0), (1, .slice a_x1 x1.length c_x1)] (by kernel_rfl) fun a1 hs2 => ?_
  refine nd_done ?_
  refine to_seq (sub [1, 0] f17_c) (sub [1, 1] f17_c) (by kernel_rfl) ?_
  refine to_seq (sub [1, 0, 0] f17_c) (sub [1, 0, 1] f17_c) (by kernel_rfl) ?_
  refine to_nd 1 5 (rops (sub [1, 0, 0] f17_c)) (by kernel_rfl) (by kernel_rfl) ?_
  refine nd_q (c := 0) 5 [0, 1, 10] hs2 [(0, .slice a_x0 x0.length c_x0), (1, .slice a_x1 x1.length c_x1), (10, .bool ((x0.length : Int) != (x1.length : Int)))] (by kernel_rfl) fun a3 hs4 => ?_
  refine nd_done ?_
  by_cases hb5 : (x0.length : Int) = (x1.length : Int)
  rotate_left
  · rw [if_neg hb5] at hr
    rw [(neT hb5)] at hs4
    refine to_then (.tmp 10) (sub [1, 0, 1, 0] f17_c) (sub [1, 0, 1, 1] f17_c) (by kernel_rfl) hs4 (by kernel_rfl) ?_
    refine to_seq (sub [1, 0, 1, 0, 0] f17_c) (sub [1, 0, 1, 0, 1] f17_c) (by kernel_rfl) ?_
    refine to_nd 2 1 (rops (sub [1, 0, 1, 0, 0] f17_c)) (by kernel_rfl) (by kernel_rfl) ?_
    refine nd_q (c := 0) 1 [4] hs4 [(4, .bool false)] (by kernel_rfl) fun a18 hs19 => ?_
    refine nd_done ?_
    exact to_ret (v := .bool false) (by kernel_rfl) hbf Try.func17 hbk hs19 (by kernel_rfl) (hQ hr (Mem.le.refl _) hst )
  rw [if_pos hb5] at hr
  rw [(neF hb5)] at hs4
  refine to_else (.tmp 10) (sub [1, 0, 1, 0] f17_c) (sub [1, 0, 1, 1] f17_c) (by kernel_rfl) hs4 (by kernel_rfl) ?_
  refine to_skip (by kernel_rfl) ?_
  refine to_seq (sub [1, 1, 0] f17_c) (sub [1, 1, 1] f17_c) (by kernel_rfl) ?_
  refine to_seq (sub [1, 1, 0, 0] f17_c) (sub [1, 1, 0, 1] f17_c) (by kernel_rfl) ?_
  refine to_nd 3 1 (rops (sub [1, 1, 0, 0] f17_c)) (by kernel_rfl) (by kernel_rfl) ?_
  refine nd_q (c := 0) 1 [0, 1, 5] hs4 [(0, .slice a_x0 x0.length c_x0), (1, .slice a_x1 x1.length c_x1), (5, .int .i64 (0 : Int))] (by kernel_rfl) fun a6 hs7 => ?_
  refine nd_done ?_
  refine to_block 0 (sub [1, 1, 0, 1, 0] f17_c) (by kernel_rfl) ?_
  refine to_loop (sub [1, 1, 0, 1, 0, 0] f17_c) (by kernel_rfl) ?_
  have hs8 := hs7.kept [0, 1, 5] [(0, .slice a_x0 x0.length c_x0), (1, .slice a_x1 x1.length c_x1), (5, .int .i64 (0 : Int))] (by kernel_rfl)
  refine f17_l1_ok hbf hbk h_x0 h_x1  ?_ (fun hq => f17_YR_mono (Mem.le.refl _) (hQ hq)) hr (Mem.le.refl _) hst hs8 (inr_of (by kernel_rfl))
  intro _ hr
  intro m10 w12 a14  hm11 hst13 hs15 
  refine to_seq (sub [1, 1, 1, 0] f17_c) (sub [1, 1, 1, 1] f17_c) (by kernel_rfl) ?_
  refine to_nd 8 1 (rops (sub [1, 1, 1, 0] f17_c)) (by kernel_rfl) (by kernel_rfl) ?_
  refine nd_q (c := 0) 1 [4] hs15 [(4, .bool true)] (by kernel_rfl) fun a16 hs17 => ?_
  refine nd_done ?_
  exact to_ret (v := .bool true) (by kernel_rfl) hbf Try.func17 hbk hs17 (by kernel_rfl) (hQ hr hm11 hst13 )
/-! ### 37: slices.IndexFunc[[]int,int] -/
noncomputable def f37_c : Code := codeOf Try.f37
def f37_post (z : Base) (m : Mem) (G : List Grp)  (Q : Int → Prop) : Ending → World → Prop := fun e w' => ∃ (r : Int) , W.St z w' m (G) ∧ e = .returned (.int .i64 r) ∧ InR .i64 r ∧ Q r
def f37_YR (z : Base) (m0 : Mem) (G : List Grp) (R : Ending → World → Prop)  (r : Int) : Prop := ∀ {m : Mem} {w : World} , m0.le m → W.St z w m (G) → (InR .i64 r) →  R (.returned (.int .i64 r)) w
theorem f37_YR_mono {z : Base} {m0 m1 : Mem} {G : List Grp} {R : Ending → World → Prop}  {r : Int} (hm : m0.le m1) (h : f37_YR z m0 G R  r) : f37_YR z m1 G R  r := by
  intro m w  hm'
  exact h (hm.trans hm')
def f37_l1_Y (z : Base) (m0 : Mem) (G : List Grp) (b : Frame) (cs : List Frame) (R : Ending → World → Prop) (a_s'0 : Option Addr) (c_s'0 : Nat) (fid_f'1 : FuncId) (cp_f'1 : Array Value) (s'0 : (List Int)) (f'1 : (Int → M Bool)) (t'7 : Int) (t'8 : Int) : Prop := ∀ {m : Mem} {w : World} {a : Act} , m0.le m → W.St z w m (G) → Has 19 a [(0, .slice a_s'0 s'0.length c_s'0), (1, .func (.func fid_f'1) #[] cp_f'1), (7, .int .i64 t'7), (8, .int .i64 t'8)] → (InR .i64 t'8) → Reach Try.prog b cs R [.code (sub [1, 0, 1, 0, 0] f37_c), .inLoop (sub [1, 0, 1, 0, 0] f37_c), .inBlock 0, .code (sub [1, 1] f37_c)] a w
def f37_l1_Yk1 (z : Base) (m0 : Mem) (G : List Grp) (b : Frame) (cs : List Frame) (R : Ending → World → Prop) (a_s'0 : Option Addr) (c_s'0 : Nat) (fid_f'1 : FuncId) (cp_f'1 : Array Value) (s'0 : (List Int)) (f'1 : (Int → M Bool)) (t'7 : Int)  : Prop := ∀ {m : Mem} {w : World} {a : Act} , m0.le m → W.St z w m (G) → Has 19 a [] →  Reach Try.prog b cs R [.code (sub [1, 1] f37_c)] a w
def f37_l1_b (s'0 : (List Int)) (f'1 : (Int → M Bool)) (t'7 : Int) (k1 : Prop) (Q : Int → Prop) (X : Int → Prop) (t'8 : Int) : Prop := if t'8 < t'7 then (ofO (ix s'0 t'8) fun x8 => f'1 x8 fun r13 => if r13 = true then (Q t'8) else (X (w64 (t'8 + (1 : Int))))) else (k1)
def f37_l1 (s'0 : (List Int)) (f'1 : (Int → M Bool)) (t'7 : Int) (k1 : Prop) (Q : Int → Prop) (t'8 : Int) : Prop := ∀ X : Int → Prop, (∀ {t'8 : Int}, f37_l1_b s'0 f'1 t'7 k1 Q X t'8 → X t'8) → X t'8
theorem f37_l1_ok {z : Base} {m0 : Mem} {G : List Grp} {b : Frame} {cs : List Frame} {R : Ending → World → Prop} {a_s'0 : Option Addr} {c_s'0 : Nat} {fid_f'1 : FuncId} {cp_f'1 : Array Value} {s'0 : (List Int)} {f'1 : (Int → M Bool)} {t'7 : Int} {k1 : Prop} {Q : Int → Prop}  (hbf : b.fn = 37) (hbk : b.kind = .normal) (h_s'0 : Sl (kInt .i64) 8 m0 a_s'0 c_s'0 s'0) (h_f'1 : FnR31 Try.prog z m0 fid_f'1 cp_f'1 f'1) (h_t'7 : InR .i64 t'7)  (hk1 : ∀ (_u : Unit), k1  → f37_l1_Yk1 z m0 G b cs R a_s'0 c_s'0 fid_f'1 cp_f'1 s'0 f'1 t'7 ) (hQ : ∀ {r : Int}, Q r → f37_YR z m0 G R  r) : ∀ {t'8 : Int}, f37_l1 s'0 f'1 t'7 k1 Q t'8 → f37_l1_Y z m0 G b cs R a_s'0 c_s'0 fid_f'1 cp_f'1 s'0 f'1 t'7 t'8 := by
  intro t'8 hr
  refine hr (f37_l1_Y z m0 G b cs R a_s'0 c_s'0 fid_f'1 cp_f'1 s'0 f'1 t'7) ?_
  intro t'8 hr m w a0  hm0 hst hs0 h_t'8
  have hX : ∀ {t'8 : Int}, f37_l1_Y z m0 G b cs R a_s'0 c_s'0 fid_f'1 cp_f'1 s'0 f'1 t'7 t'8 → f37_l1_Y z m0 G b cs R a_s'0 c_s'0 fid_f'1 cp_f'1 s'0 f'1 t'7 t'8 := fun h => h
  unfold f37_l1_b at hr
  refine to_seq (sub [1, 0, 1, 0, 0, 0] f37_c) (sub [1, 0, 1, 0, 0, 1] f37_c) (by kernel_rfl) ?_
  refine to_nd 2 1 (rops (sub [1, 0, 1, 0, 0, 0] f37_c)) (by kernel_rfl) (by kernel_rfl) ?_
  refine nd_q (c := 0) 1 [0, 1, 7, 8, 9] hs0 [(0, .slice a_s'0 s'0.length c_s'0), (1, .func (.func fid_f'1) #[] cp_f'1), (7, .int .i64 t'7), (8, .int .i64 t'8), (9, .bool (decide (t'8 < t'7)))] (by kernel_rfl) fun a1 hs2 => ?_
  refine nd_done ?_
  refine to_seq (sub [1, 0, 1, 0, 0, 1, 0] f37_c) (sub [1, 0, 1, 0, 0, 1, 1] f37_c) (by kernel_rfl) ?_
  by_cases hb3 : t'8 < t'7
  rotate_left
  · rw [if_neg hb3] at hr
    rw [(decide_eq_false hb3)] at hs2
    refine to_else (.tmp 9) (sub [1, 0, 1, 0, 0, 1, 0, 0] f37_c) (sub [1, 0, 1, 0, 0, 1, 0, 1] f37_c) (by kernel_rfl) hs2 (by kernel_rfl) ?_
    refine to_exit 0 (by kernel_rfl) [.code (sub [1, 1] f37_c)] rfl ?_
    have hs27 := hs2.kept [] [] (by kernel_rfl)
    exact hk1 () hr hm0 hst hs27 
  rw [if_pos hb3] at hr
  rw [(decide_eq_true hb3)] at hs2
  refine to_then (.tmp 9) (sub [1, 0, 1, 0, 0, 1, 0, 0] f37_c) (sub [1, 0, 1, 0, 0, 1, 0, 1] f37_c) (by kernel_rfl) hs2 (by kernel_rfl) ?_
  refine to_skip (by kernel_rfl) ?_
  refine to_seq (sub [1, 0, 1, 0, 0, 1, 1, 0] f37_c) (sub [1, 0, 1, 0, 0, 1, 1, 1] f37_c) (by kernel_rfl) ?_
  refine to_block 1 (sub [1, 0, 1, 0, 0, 1, 1, 0, 0] f37_c) (by kernel_rfl) ?_
  refine to_seq (sub [1, 0, 1, 0, 0, 1, 1, 0, 0, 0] f37_c) (sub [1, 0, 1, 0, 0, 1, 1, 0, 0, 1] f37_c) (by kernel_rfl) ?_
  refine to_nd 3 2 (rops (sub [1, 0, 1, 0, 0, 1, 1, 0, 0, 0] f37_c)) (by kernel_rfl) (by kernel_rfl) ?_
  refine nd_q (c := 0) 2 [0, 1, 5, 7, 8] hs2 [(0, .slice a_s'0 s'0.length c_s'0), (1, .func (.func fid_f'1) #[] cp_f'1), (5, .int .i64 t'8), (7, .int .i64 t'7), (8, .int .i64 t'8)] (by kernel_rfl) fun a4 hs5 => ?_
  refine nd_done ?_
  refine to_seq (sub [1, 0, 1, 0, 0, 1, 1, 0, 0, 1, 0] f37_c) (sub [1, 0, 1, 0, 0, 1, 1, 0, 0, 1, 1] f37_c) (by kernel_rfl) ?_
  refine to_nd 4 6 (rops (sub [1, 0, 1, 0, 0, 1, 1, 0, 0, 1, 0] f37_c)) (by kernel_rfl) (by kernel_rfl) ?_
  refine nd_q (c := 3) 3 [0, 1, 5, 7, 8, 11, 12, 13] hs5 [(0, .slice a_s'0 s'0.length c_s'0), (1, .func (.func fid_f'1) #[] cp_f'1), (5, .int .i64 t'8), (7, .int .i64 t'7), (8, .int .i64 t'8), (11, .func (.func fid_f'1) #[] cp_f'1), (12, .slice a_s'0 s'0.length c_s'0), (13, .int .i64 t'8)] (by kernel_rfl) fun a6 hs7 => ?_
  obtain ⟨x8, hx8, hr⟩ := ofO_el hr
  obtain ⟨ad8, c8, hA8, hR8, hX8⟩ := Row.ix (h_s'0.mono hm0).1 hx8
  obtain ⟨he8, hf8⟩ := kInt_open hR8
  have hB8 := hA8.conv he8
  refine nd_v (i := 3) (c := 2) 14 (.pointer (some ad8)) hs7 (by kernel_rfl) (hX8 (P := Try.prog) (w := w) (by kernel_rfl)) fun a9 hs10 => ?_
  refine nd_v (i := 4) (c := 1) 15 (.int .i64 x8) hs10 (by kernel_rfl) (ld1_run (P := Try.prog) (ad := ad8) (by kernel_rfl) (hB8.cell0 hst (Nat.le_of_ble_eq_true rfl))) fun a11 hs12 => ?_
  obtain ⟨hclq18, hcallq18⟩ := (h_f'1.mono hm0)
  refine nd_op (op_callv (some 16) hs12 (by kernel_rfl) (by kernel_rfl) hclq18 ((hcallq18 (Mem.le.refl _) hst hf8 hr).mono ?_))
  rintro _ w14 ⟨r13, hst17, rfl, hr⟩
  revert hr; intro hr
  refine ⟨_, rfl, fun a15 hs16 => ?_⟩
  refine nd_done ?_
  by_cases hb21 : r13 = true
  · rw [if_pos hb21] at hr
    rw [(bT hb21)] at hs16
    refine to_then (.tmp 16) (sub [1, 0, 1, 0, 0, 1, 1, 0, 0, 1, 1, 0] f37_c) (sub [1, 0, 1, 0, 0, 1, 1, 0, 0, 1, 1, 1] f37_c) (by kernel_rfl) hs16 (by kernel_rfl) ?_
    refine to_seq (sub [1, 0, 1, 0, 0, 1, 1, 0, 0, 1, 1, 0, 0] f37_c) (sub [1, 0, 1, 0, 0, 1, 1, 0, 0, 1, 1, 0, 1] f37_c) (by kernel_rfl) ?_
    refine to_nd 5 2 (rops (sub [1, 0, 1, 0, 0, 1, 1, 0, 0, 1, 1, 0, 0] f37_c)) (by kernel_rfl) (by kernel_rfl) ?_
    refine nd_q (c := 0) 2 [4] hs16 [(4, .int .i64 t'8)] (by kernel_rfl) fun a22 hs23 => ?_
    refine nd_done ?_
    exact to_ret (v := .int .i64 t'8) (by kernel_rfl) hbf Try.func37 hbk hs23 (by kernel_rfl) (hQ hr hm0 hst17 h_t'8)
  rw [if_neg hb21] at hr
  rw [(bF hb21)] at hs16
  refine to_else (.tmp 16) (sub [1, 0, 1, 0, 0, 1, 1, 0, 0, 1, 1, 0] f37_c) (sub [1, 0, 1, 0, 0, 1, 1, 0, 0, 1, 1, 1] f37_c) (by kernel_rfl) hs16 (by kernel_rfl) ?_
  refine to_skip (by kernel_rfl) ?_
  refine reach_inBlock ?_
  refine to_nd 6 2 (rops (sub [1, 0, 1, 0, 0, 1, 1, 1] f37_c)) (by kernel_rfl) (by kernel_rfl) ?_
  refine nd_q (c := 0) 2 [0, 1, 7, 8] hs16 [(0, .slice a_s'0 s'0.length c_s'0), (1, .func (.func fid_f'1) #[] cp_f'1), (7, .int .i64 t'7), (8, .int .i64 (w64 (t'8 + (1 : Int))))] (by kernel_rfl) fun a24 hs25 => ?_
  refine nd_done ?_
  refine reach_inLoop ?_
  have hs26 := hs25.kept [0, 1, 7, 8] [(0, .slice a_s'0 s'0.length c_s'0), (1, .func (.func fid_f'1) #[] cp_f'1), (7, .int .i64 t'7), (8, .int .i64 (w64 (t'8 + (1 : Int))))] (by kernel_rfl)
  exact hX hr hm0 hst17 hs26 (wrap_in .i64 _)
def f37  (x0 : (List Int)) (x1 : (Int → M Bool)) : M Int := fun Q => f37_l1 x0 x1 (x0.length : Int) (Q (-1 : Int)) Q (0 : Int)
theorem f37_ok  {z : Base} {w : World} {m : Mem} {G : List Grp} {a_x0 : Option Addr} {c_x0 : Nat} {fid_x1 : FuncId} {cp_x1 : Array Value} {x0 : (List Int)} {x1 : (Int → M Bool)} {Q : Int → Prop} (hst : W.St z w m (G)) (h_x0 : Sl (kInt .i64) 8 m a_x0 c_x0 x0) (h_x1 : FnR31 Try.prog z m fid_x1 cp_x1 x1) (hr : f37  x0 x1 Q) : Calls Try.prog 37 #[.slice a_x0 x0.length c_x0, .func (.func fid_x1) #[] cp_x1] w (f37_post z m G  Q) := by
  refine calls_begin (c := f37_c) (n := 19) [.slice a_x0 x0.length c_x0, .func (.func fid_x1) #[] cp_x1] Try.func37 (by kernel_rfl) Try.ntmps37 (Nat.le_of_ble_eq_true rfl) fun b cs a0 hbf hbk hs0 => ?_
  have hm0 := Mem.le.refl m
  have hQ : ∀ {r : Int}, Q r → f37_YR z m G (f37_post z m G  Q)  r := by intro r hq m' w'  hm' hst' hf0_0; exact ⟨r,  W.St.less hm' hst', rfl, hf0_0, hq⟩
  unfold f37 at hr
  refine to_seq (sub [0] f37_c) (sub [1] f37_c) (by kernel_rfl) ?_
  refine to_nd 0 1 (rops (sub [0] f37_c)) (by kernel_rfl) (by kernel_rfl) ?_
  refine nd_q (c := 0) 1 [0, 1] hs0 [(0, .slice a_x0 x0.length c_x0), (1, .func (.func fid_x1) #[] cp_x1)] (by kernel_rfl) fun a1 hs2 => ?_
  refine nd_done ?_
  refine to_seq (sub [1, 0] f37_c) (sub [1, 1] f37_c) (by kernel_rfl) ?_
  refine to_seq (sub [1, 0, 0] f37_c) (sub [1, 0, 1] f37_c) (by kernel_rfl) ?_
  refine to_nd 1 3 (rops (sub [1, 0, 0] f37_c)) (by kernel_rfl) (by kernel_rfl) ?_
  refine nd_q (c := 0) 3 [0, 1, 7, 8] hs2 [(0, .slice a_x0 x0.length c_x0), (1, .func (.func fid_x1) #[] cp_x1), (7, .int .i64 (x0.length : Int)), (8, .int .i64 (0 : Int))] (by kernel_rfl) fun a3 hs4 => ?_
  refine nd_done ?_
  refine to_block 0 (sub [1, 0, 1, 0] f37_c) (by kernel_rfl) ?_
  refine to_loop (sub [1, 0, 1, 0, 0] f37_c) (by kernel_rfl) ?_
  have hs5 := hs4.kept [0, 1, 7, 8] [(0, .slice a_x0 x0.length c_x0), (1, .func (.func fid_x1) #[] cp_x1), (7, .int .i64 (x0.length : Int)), (8, .int .i64 (0 : Int))] (by kernel_rfl)
  refine f37_l1_ok hbf hbk h_x0 h_x1 (len_in h_x0.len)  ?_ (fun hq => f37_YR_mono (Mem.le.refl _) (hQ hq)) hr (Mem.le.refl _) hst hs5 (inr_of (by kernel_rfl))
  intro _ hr
  intro m7 w9 a11  hm8 hst10 hs12 
  refine to_seq (sub [1, 1, 0] f37_c) (sub [1, 1, 1] f37_c) (by kernel_rfl) ?_
  refine to_nd 7 1 (rops (sub [1, 1, 0] f37_c)) (by kernel_rfl) (by kernel_rfl) ?_
  refine nd_q (c := 0) 1 [4] hs12 [(4, .int .i64 (-1 : Int))] (by kernel_rfl) fun a13 hs14 => ?_
  refine nd_done ?_
  exact to_ret (v := .int .i64 (-1 : Int)) (by kernel_rfl) hbf Try.func37 hbk hs14 (by kernel_rfl) (hQ hr hm8 hst10 (inr_of (by kernel_rfl)))
/-! ### 32: slices.DeleteFunc[[]int,int] -/
noncomputable def f32_c : Code := codeOf Try.f32
def f32_post (z : Base) (m : Mem) (G : List Grp)  (Q : (List Int) → Prop) : Ending → World → Prop := fun e w' => ∃ (r : (List Int)) (a0_0 : Option Addr) (c0_0 : Nat) (I0_0 : Grp), W.St z w' m (I0_0 :: G) ∧ e = .returned (.slice a0_0 r.length c0_0) ∧ OwnSl (kInt .i64) 8 3 m a0_0 c0_0 I0_0 r ∧ Q r
def f32_YR (z : Base) (m0 : Mem) (G : List Grp) (R : Ending → World → Prop)  (r : (List Int)) : Prop := ∀ {m : Mem} {w : World} {a0_0 : Option Addr} {c0_0 : Nat} {I0_0 : Grp}, m0.le m → W.St z w m (I0_0 :: G) → (OwnSl (kInt .i64) 8 3 m a0_0 c0_0 I0_0 r) →  R (.returned (.slice a0_0 r.length c0_0)) w
theorem f32_YR_mono {z : Base} {m0 m1 : Mem} {G : List Grp} {R : Ending → World → Prop}  {r : (List Int)} (hm : m0.le m1) (h : f32_YR z m0 G R  r) : f32_YR z m1 G R  r := by
  intro m w a0_0 c0_0 I0_0 hm'
  exact h (hm.trans hm')
def f32_l1_Y (z : Base) (m0 : Mem) (G : List Grp) (b : Frame) (cs : List Frame) (R : Ending → World → Prop) (fid_del'1 : FuncId) (cp_del'1 : Array Value) (del'1 : (Int → M Bool)) (s'0 : (List Int)) (i'5 : Int) (j'6 : Int) : Prop := ∀ {m : Mem} {w : World} {a : Act} {a_s'0 : Option Addr} {c_s'0 : Nat} {I_s'0 : Grp}, m0.le m → W.St z w m (I_s'0 :: G) → Has 42 a [(0, .slice a_s'0 s'0.length c_s'0), (1, .func (.func fid_del'1) #[] cp_del'1), (5, .int .i64 i'5), (6, .int .i64 j'6)] → (OwnSl (kInt .i64) 8 3 m a_s'0 c_s'0 I_s'0 s'0) → (InR .i64 i'5) → (InR .i64 j'6) → Reach Try.prog b cs R [.code (sub [1, 1, 1, 0, 1, 0, 0] f32_c), .inLoop (sub [1, 1, 1, 0, 1, 0, 0] f32_c), .inBlock 0, .code (sub [1, 1, 1, 1] f32_c)] a w
def f32_j2_Y (z : Base) (m0 : Mem) (G : List Grp) (b : Frame) (cs : List Frame) (R : Ending → World → Prop) (fid_del'1 : FuncId) (cp_del'1 : Array Value) (del'1 : (Int → M Bool)) (s'0 : (List Int)) (i'5 : Int) (j'6 : Int) : Prop := ∀ {m : Mem} {w : World} {a : Act} {a_s'0 : Option Addr} {c_s'0 : Nat} {I_s'0 : Grp}, m0.le m → W.St z w m (I_s'0 :: G) → Has 42 a [(0, .slice a_s'0 s'0.length c_s'0), (1, .func (.func fid_del'1) #[] cp_del'1), (5, .int .i64 i'5), (6, .int .i64 j'6)] → (OwnSl (kInt .i64) 8 3 m a_s'0 c_s'0 I_s'0 s'0) → (InR .i64 i'5) → (InR .i64 j'6) → Reach Try.prog b cs R [.inBlock 1, .code (sub [1, 1, 1, 0, 1, 0, 0, 1, 1] f32_c), .inLoop (sub [1, 1, 1, 0, 1, 0, 0] f32_c), .inBlock 0, .code (sub [1, 1, 1, 1] f32_c)] a w
def f32_j2 (del'1 : (Int → M Bool)) (X : (List Int) → Int → Int → Prop) (s'0 : (List Int)) (i'5 : Int) (j'6 : Int) : Prop := X s'0 i'5 (w64 (j'6 + (1 : Int)))
theorem f32_j2_ok {z : Base} {m0 : Mem} {G : List Grp} {b : Frame} {cs : List Frame} {R : Ending → World → Prop} {fid_del'1 : FuncId} {cp_del'1 : Array Value} {del'1 : (Int → M Bool)} {X : (List Int) → Int → Int → Prop} (hbf : b.fn = 32) (hbk : b.kind = .normal) (h_del'1 : FnR31 Try.prog z m0 fid_del'1 cp_del'1 del'1)  (hX : ∀ {s'0 : (List Int)} {i'5 : Int} {j'6 : Int}, X s'0 i'5 j'6 → f32_l1_Y z m0 G b cs R fid_del'1 cp_del'1 del'1 s'0 i'5 j'6) : ∀ {s'0 : (List Int)} {i'5 : Int} {j'6 : Int}, f32_j2 del'1 X s'0 i'5 j'6 → f32_j2_Y z m0 G b cs R fid_del'1 cp_del'1 del'1 s'0 i'5 j'6 := by
  intro s'0 i'5 j'6 hr m w a0 a_s'0 c_s'0 I_s'0 hm0 hst hs0 h_s'0 h_i'5 h_j'6
  unfold f32_j2 at hr
  refine reach_inBlock ?_
  refine to_nd 6 3 (rops (sub [1, 1, 1, 0, 1, 0, 0, 1, 1] f32_c)) (by kernel_rfl) (by kernel_rfl) ?_
  refine nd_q (c := 0) 3 [0, 1, 5, 6] hs0 [(0, .slice a_s'0 s'0.length c_s'0), (1, .func (.func fid_del'1) #[] cp_del'1), (5, .int .i64 i'5), (6, .int .i64 (w64 (j'6 + (1 : Int))))] (by kernel_rfl) fun a1 hs2 => ?_
  refine nd_done ?_
  refine reach_inLoop ?_
  have hs3 := hs2.kept [0, 1, 5, 6] [(0, .slice a_s'0 s'0.length c_s'0), (1, .func (.func fid_del'1) #[] cp_del'1), (5, .int .i64 i'5), (6, .int .i64 (w64 (j'6 + (1 : Int))))] (by kernel_rfl)
  exact hX hr hm0 hst hs3 h_s'0 h_i'5 (wrap_in .i64 _)
def f32_l1_Yk1 (z : Base) (m0 : Mem) (G : List Grp) (b : Frame) (cs : List Frame) (R : Ending → World → Prop) (fid_del'1 : FuncId) (cp_del'1 : Array Value) (del'1 : (Int → M Bool)) (s'0 : (List Int)) (i'5 : Int) : Prop := ∀ {m : Mem} {w : World} {a : Act} {a_s'0 : Option Addr} {c_s'0 : Nat} {I_s'0 : Grp}, m0.le m → W.St z w m (I_s'0 :: G) → Has 42 a [(0, .slice a_s'0 s'0.length c_s'0), (5, .int .i64 i'5)] → (OwnSl (kInt .i64) 8 3 m a_s'0 c_s'0 I_s'0 s'0) → (InR .i64 i'5) → Reach Try.prog b cs R [.code (sub [1, 1, 1, 1] f32_c)] a w
def f32_l1_b (del'1 : (Int → M Bool)) (k1 : (List Int) → Int → Prop) (X : (List Int) → Int → Int → Prop) (s'0 : (List Int)) (i'5 : Int) (j'6 : Int) : Prop := if j'6 < (s'0.length : Int) then (ofO (ix s'0 j'6) fun x6 => del'1 x6 fun r15 => if r15 = true then (f32_j2 del'1 X s'0 i'5 j'6) else (ofO (ix s'0 i'5) fun x29 => f32_j2 del'1 X (s'0.set (Int.toNat i'5) x6) (w64 (i'5 + (1 : Int))) j'6)) else (k1 s'0 i'5)
def f32_l1 (del'1 : (Int → M Bool)) (k1 : (List Int) → Int → Prop) (s'0 : (List Int)) (i'5 : Int) (j'6 : Int) : Prop := ∀ X : (List Int) → Int → Int → Prop, (∀ {s'0 : (List Int)} {i'5 : Int} {j'6 : Int}, f32_l1_b del'1 k1 X s'0 i'5 j'6 → X s'0 i'5 j'6) → X s'0 i'5 j'6
theorem f32_l1_ok {z : Base} {m0 : Mem} {G : List Grp} {b : Frame} {cs : List Frame} {R : Ending → World → Prop} {fid_del'1 : FuncId} {cp_del'1 : Array Value} {del'1 : (Int → M Bool)} {k1 : (List Int) → Int → Prop}  (hbf : b.fn = 32) (hbk : b.kind = .normal) (h_del'1 : FnR31 Try.prog z m0 fid_del'1 cp_del'1 del'1)  (hk1 : ∀ {s'0 : (List Int)} {i'5 : Int}, k1 s'0 i'5 → f32_l1_Yk1 z m0 G b cs R fid_del'1 cp_del'1 del'1 s'0 i'5) : ∀ {s'0 : (List Int)} {i'5 : Int} {j'6 : Int}, f32_l1 del'1 k1 s'0 i'5 j'6 → f32_l1_Y z m0 G b cs R fid_del'1 cp_del'1 del'1 s'0 i'5 j'6 := by
  intro s'0 i'5 j'6 hr
  refine hr (f32_l1_Y z m0 G b cs R fid_del'1 cp_del'1 del'1) ?_
  intro s'0 i'5 j'6 hr m w a0 a_s'0 c_s'0 I_s'0 hm0 hst hs0 h_s'0 h_i'5 h_j'6
  have hX : ∀ {s'0 : (List Int)} {i'5 : Int} {j'6 : Int}, f32_l1_Y z m0 G b cs R fid_del'1 cp_del'1 del'1 s'0 i'5 j'6 → f32_l1_Y z m0 G b cs R fid_del'1 cp_del'1 del'1 s'0 i'5 j'6 := fun h => h
  unfold f32_l1_b at hr
  refine to_seq (sub [1, 1, 1, 0, 1, 0, 0, 0] f32_c) (sub [1, 1, 1, 0, 1, 0, 0, 1] f32_c) (by kernel_rfl) ?_
  refine to_seq (sub [1, 1, 1, 0, 1, 0, 0, 0, 0] f32_c) (sub [1, 1, 1, 0, 1, 0, 0, 0, 1] f32_c) (by kernel_rfl) ?_
  refine to_nd 5 4 (rops (sub [1, 1, 1, 0, 1, 0, 0, 0, 0] f32_c)) (by kernel_rfl) (by kernel_rfl) ?_
  refine nd_q (c := 0) 4 [0, 1, 5, 6, 19] hs0 [(0, .slice a_s'0 s'0.length c_s'0), (1, .func (.func fid_del'1) #[] cp_del'1), (5, .int .i64 i'5), (6, .int .i64 j'6), (19, .bool (decide (j'6 < (s'0.length : Int))))] (by kernel_rfl) fun a1 hs2 => ?_
  refine nd_done ?_
  by_cases hb3 : j'6 < (s'0.length : Int)
  rotate_left
  · rw [if_neg hb3] at hr
    rw [(decide_eq_false hb3)] at hs2
    refine to_else (.tmp 19) (sub [1, 1, 1, 0, 1, 0, 0, 0, 1, 0] f32_c) (sub [1, 1, 1, 0, 1, 0, 0, 0, 1, 1] f32_c) (by kernel_rfl) hs2 (by kernel_rfl) ?_
    refine to_exit 0 (by kernel_rfl) [.code (sub [1, 1, 1, 1] f32_c)] rfl ?_
    have hs38 := hs2.kept [0, 5] [(0, .slice a_s'0 s'0.length c_s'0), (5, .int .i64 i'5)] (by kernel_rfl)
    exact hk1 hr hm0 hst hs38 h_s'0 h_i'5
  rw [if_pos hb3] at hr
  rw [(decide_eq_true hb3)] at hs2
  refine to_then (.tmp 19) (sub [1, 1, 1, 0, 1, 0, 0, 0, 1, 0] f32_c) (sub [1, 1, 1, 0, 1, 0, 0, 0, 1, 1] f32_c) (by kernel_rfl) hs2 (by kernel_rfl) ?_
  refine to_skip (by kernel_rfl) ?_
  refine to_seq (sub [1, 1, 1, 0, 1, 0, 0, 1, 0] f32_c) (sub [1, 1, 1, 0, 1, 0, 0, 1, 1] f32_c) (by kernel_rfl) ?_
  refine to_block 1 (sub [1, 1, 1, 0, 1, 0, 0, 1, 0, 0] f32_c) (by kernel_rfl) ?_
  refine to_seq (sub [1, 1, 1, 0, 1, 0, 0, 1, 0, 0, 0] f32_c) (sub [1, 1, 1, 0, 1, 0, 0, 1, 0, 0, 1] f32_c) (by kernel_rfl) ?_
  refine to_nd 7 5 (rops (sub [1, 1, 1, 0, 1, 0, 0, 1, 0, 0, 0] f32_c)) (by kernel_rfl) (by kernel_rfl) ?_
  refine nd_q (c := 3) 2 [0, 1, 5, 6, 22, 23] hs2 [(0, .slice a_s'0 s'0.length c_s'0), (1, .func (.func fid_del'1) #[] cp_del'1), (5, .int .i64 i'5), (6, .int .i64 j'6), (22, .slice a_s'0 s'0.length c_s'0), (23, .int .i64 j'6)] (by kernel_rfl) fun a4 hs5 => ?_
  obtain ⟨x6, hx6, hr⟩ := ofO_el hr
  obtain ⟨ad6, c6, hC6, hR6, hX6, hW6⟩ := own_ix h_s'0 hx6
  obtain ⟨he6, hf6⟩ := kInt_open hR6
  refine nd_v (i := 2) (c := 2) 24 (.pointer (some ad6)) hs5 (by kernel_rfl) (hX6 (P := Try.prog) (w := w) (by kernel_rfl)) fun a7 hs8 => ?_
  refine nd_v (i := 3) (c := 1) 25 (.int .i64 x6) hs8 (by kernel_rfl) (ld1_run (P := Try.prog) (ad := ad6) (by kernel_rfl) (ocell0 (own_conv hC6 he6 (W.St.front [] hst)) (Nat.le_of_ble_eq_true rfl))) fun a9 hs10 => ?_
  refine nd_q (c := 0) 1 [0, 1, 5, 6, 7] hs10 [(0, .slice a_s'0 s'0.length c_s'0), (1, .func (.func fid_del'1) #[] cp_del'1), (5, .int .i64 i'5), (6, .int .i64 j'6), (7, .int .i64 x6)] (by kernel_rfl) fun a11 hs12 => ?_
  refine nd_done ?_
  refine to_seq (sub [1, 1, 1, 0, 1, 0, 0, 1, 0, 0, 1, 0] f32_c) (sub [1, 1, 1, 0, 1, 0, 0, 1, 0, 0, 1, 1] f32_c) (by kernel_rfl) ?_
  refine to_nd 8 4 (rops (sub [1, 1, 1, 0, 1, 0, 0, 1, 0, 0, 1, 0] f32_c)) (by kernel_rfl) (by kernel_rfl) ?_
  refine nd_q (c := 2) 2 [0, 1, 5, 6, 7, 26, 27] hs12 [(0, .slice a_s'0 s'0.length c_s'0), (1, .func (.func fid_del'1) #[] cp_del'1), (5, .int .i64 i'5), (6, .int .i64 j'6), (7, .int .i64 x6), (26, .func (.func fid_del'1) #[] cp_del'1), (27, .int .i64 x6)] (by kernel_rfl) fun a13 hs14 => ?_
  obtain ⟨hclq20, hcallq20⟩ := (h_del'1.mono hm0)
  refine nd_op (op_callv (some 28) hs14 (by kernel_rfl) (by kernel_rfl) hclq20 ((hcallq20 (Mem.le.refl _) hst hf6 hr).mono ?_))
  rintro _ w16 ⟨r15, hst19, rfl, hr⟩
  revert hr; intro hr
  refine ⟨_, rfl, fun a17 hs18 => ?_⟩
  refine nd_q (c := 0) 1 [0, 1, 5, 6, 7, 29] hs18 [(0, .slice a_s'0 s'0.length c_s'0), (1, .func (.func fid_del'1) #[] cp_del'1), (5, .int .i64 i'5), (6, .int .i64 j'6), (7, .int .i64 x6), (29, .bool (!r15))] (by kernel_rfl) fun a23 hs24 => ?_
  refine nd_done ?_
  by_cases hb25 : r15 = true
  · rw [if_pos hb25] at hr
    rw [(bT hb25)] at hs24
    refine to_else (.tmp 29) (sub [1, 1, 1, 0, 1, 0, 0, 1, 0, 0, 1, 1, 0] f32_c) (sub [1, 1, 1, 0, 1, 0, 0, 1, 0, 0, 1, 1, 1] f32_c) (by kernel_rfl) hs24 (by kernel_rfl) ?_
    refine to_skip (by kernel_rfl) ?_
    have hs26 := hs24.kept [0, 1, 5, 6] [(0, .slice a_s'0 s'0.length c_s'0), (1, .func (.func fid_del'1) #[] cp_del'1), (5, .int .i64 i'5), (6, .int .i64 j'6)] (by kernel_rfl)
    exact f32_j2_ok hbf hbk h_del'1  hX hr hm0 hst19 hs26 h_s'0 h_i'5 h_j'6
  rw [if_neg hb25] at hr
  rw [(bF hb25)] at hs24
  refine to_then (.tmp 29) (sub [1, 1, 1, 0, 1, 0, 0, 1, 0, 0, 1, 1, 0] f32_c) (sub [1, 1, 1, 0, 1, 0, 0, 1, 0, 0, 1, 1, 1] f32_c) (by kernel_rfl) hs24 (by kernel_rfl) ?_
  refine to_seq (sub [1, 1, 1, 0, 1, 0, 0, 1, 0, 0, 1, 1, 0, 0] f32_c) (sub [1, 1, 1, 0, 1, 0, 0, 1, 0, 0, 1, 1, 0, 1] f32_c) (by kernel_rfl) ?_
  refine to_nd 9 5 (rops (sub [1, 1, 1, 0, 1, 0, 0, 1, 0, 0, 1, 1, 0, 0] f32_c)) (by kernel_rfl) (by kernel_rfl) ?_
  refine nd_q (c := 2) 3 [0, 1, 5, 6, 30, 31, 32] hs24 [(0, .slice a_s'0 s'0.length c_s'0), (1, .func (.func fid_del'1) #[] cp_del'1), (5, .int .i64 i'5), (6, .int .i64 j'6), (30, .slice a_s'0 s'0.length c_s'0), (31, .int .i64 i'5), (32, .int .i64 x6)] (by kernel_rfl) fun a27 hs28 => ?_
  obtain ⟨x29, hx29, hr⟩ := ofO_el hr
  obtain ⟨ad29, c29, hC29, hR29, hX29, hW29⟩ := own_ix h_s'0 hx29
  obtain ⟨he29, hf29⟩ := kInt_open hR29
  refine nd_v (i := 3) (c := 1) 33 (.pointer (some ad29)) hs28 (by kernel_rfl) (hX29 (P := Try.prog) (w := w16) (by kernel_rfl)) fun a30 hs31 => ?_
  obtain ⟨Iq32, wq32, hxq32, hstq32, hoq32⟩ := hW29 (P := Try.prog) (o := opAt (rops (sub [1, 1, 1, 0, 1, 0, 0, 1, 0, 0, 1, 1, 0, 0] f32_c)) 4) (ρ := Env.rho hs31.env) 0 [.int .i64 x29] [.int .i64 x6] x6 (by kernel_rfl) (by kernel_rfl) (Nat.le_of_ble_eq_true rfl) rfl he29 hst19 (kInt_mk hf6)
  have hlq32 : s'0.length = ((s'0.set (Int.toNat i'5) x6)).length := by simp
  refine nd_op (op_s none hs31 (by kernel_rfl) hxq32 fun a33 hs34 => ?_)
  try rw [hlq32] at hs34
  try rw [hlq32] at hstq32
  refine nd_done ?_
  refine to_nd 10 3 (rops (sub [1, 1, 1, 0, 1, 0, 0, 1, 0, 0, 1, 1, 0, 1] f32_c)) (by kernel_rfl) (by kernel_rfl) ?_
  refine nd_q (c := 0) 3 [0, 1, 5, 6] hs34 [(0, .slice a_s'0 (s'0.set (Int.toNat i'5) x6).length c_s'0), (1, .func (.func fid_del'1) #[] cp_del'1), (5, .int .i64 (w64 (i'5 + (1 : Int)))), (6, .int .i64 j'6)] (by kernel_rfl) fun a35 hs36 => ?_
  refine nd_done ?_
  have hs37 := hs36.kept [0, 1, 5, 6] [(0, .slice a_s'0 (s'0.set (Int.toNat i'5) x6).length c_s'0), (1, .func (.func fid_del'1) #[] cp_del'1), (5, .int .i64 (w64 (i'5 + (1 : Int)))), (6, .int .i64 j'6)] (by kernel_rfl)
  exact f32_j2_ok hbf hbk h_del'1  hX hr hm0 hstq32 hs37 hoq32 (wrap_in .i64 _) h_j'6
def f32  (x0 : (List Int)) (x1 : (Int → M Bool)) : M (List Int) := fun Q => f37 x0 x1 fun r10 => if r10 = (-1 : Int) then (Q x0) else (f32_l1 x1 (fun s'0e28 i'5e28 => ofO (cut s'0e28 i'5e28 (s'0e28.length : Int)) fun r37 => ofO (cut (clr s'0e28 i'5e28 (0 : Int)) 0 i'5e28) fun r46 => Q r46) x0 r10 (w64 (r10 + (1 : Int))))
theorem f32_ok  {z : Base} {w : World} {m : Mem} {G : List Grp} {a_x0 : Option Addr} {c_x0 : Nat} {I_x0 : Grp} {fid_x1 : FuncId} {cp_x1 : Array Value} {x0 : (List Int)} {x1 : (Int → M Bool)} {Q : (List Int) → Prop} (hst : W.St z w m (I_x0 :: G)) (h_x0 : OwnSl (kInt .i64) 8 3 m a_x0 c_x0 I_x0 x0) (h_x1 : FnR31 Try.prog z m fid_x1 cp_x1 x1) (hr : f32  x0 x1 Q) : Calls Try.prog 32 #[.slice a_x0 x0.length c_x0, .func (.func fid_x1) #[] cp_x1] w (f32_post z m G  Q) := by
  refine calls_begin (c := f32_c) (n := 42) [.slice a_x0 x0.length c_x0, .func (.func fid_x1) #[] cp_x1] Try.func32 (by kernel_rfl) Try.ntmps32 (Nat.le_of_ble_eq_true rfl) fun b cs a0 hbf hbk hs0 => ?_
  have hm0 := Mem.le.refl m
  have hQ : ∀ {r : (List Int)}, Q r → f32_YR z m G (f32_post z m G  Q)  r := by intro r hq m' w' a0_0 c0_0 I0_0 hm' hst' hf0_0; exact ⟨r, a0_0, c0_0, I0_0,  W.St.less hm' hst', rfl, (OwnSl.flat flat_int hf0_0), hq⟩
  unfold f32 at hr
  refine to_seq (sub [0] f32_c) (sub [1] f32_c) (by kernel_rfl) ?_
  refine to_nd 0 1 (rops (sub [0] f32_c)) (by kernel_rfl) (by kernel_rfl) ?_
  refine nd_q (c := 0) 1 [0, 1] hs0 [(0, .slice a_x0 x0.length c_x0), (1, .func (.func fid_x1) #[] cp_x1)] (by kernel_rfl) fun a1 hs2 => ?_
  refine nd_done ?_
  refine to_seq (sub [1, 0] f32_c) (sub [1, 1] f32_c) (by kernel_rfl) ?_
  refine to_nd 1 4 (rops (sub [1, 0] f32_c)) (by kernel_rfl) (by kernel_rfl) ?_
  refine nd_q (c := 2) 2 [0, 1, 8, 9] hs2 [(0, .slice a_x0 x0.length c_x0), (1, .func (.func fid_x1) #[] cp_x1), (8, .slice a_x0 x0.length c_x0), (9, .func (.func fid_x1) #[] cp_x1)] (by kernel_rfl) fun a3 hs4 => ?_
  have hz6 := h_x0.lend hst
  have hst7 := W.St.freeze hst
  have hm8 := Mem.le_add m I_x0
  generalize hq9 : Mem.add m I_x0 = m5 at hz6 hst7 hm8
  refine nd_op (op_call (some 10) hs4 (by kernel_rfl) (by kernel_rfl) ((f37_ok hst7 hz6 (h_x1.mono hm8) hr).mono ?_))
  rintro _ w11 ⟨r10, hst14, rfl, hf10_0_0, hr⟩
  revert hr; intro hr
  refine ⟨_, rfl, fun a12 hs13 => ?_⟩
  have hst17 := W.St.thaw2 hst (by rw [hq9]; exact Mem.le.refl _) hst14
  refine nd_q (c := 0) 1 [0, 1, 5] hs13 [(0, .slice a_x0 x0.length c_x0), (1, .func (.func fid_x1) #[] cp_x1), (5, .int .i64 r10)] (by kernel_rfl) fun a18 hs19 => ?_
  refine nd_done ?_
  refine to_seq (sub [1, 1, 0] f32_c) (sub [1, 1, 1] f32_c) (by kernel_rfl) ?_
  refine to_seq (sub [1, 1, 0, 0] f32_c) (sub [1, 1, 0, 1] f32_c) (by kernel_rfl) ?_
  refine to_nd 2 2 (rops (sub [1, 1, 0, 0] f32_c)) (by kernel_rfl) (by kernel_rfl) ?_
  refine nd_q (c := 0) 2 [0, 1, 5, 12] hs19 [(0, .slice a_x0 x0.length c_x0), (1, .func (.func fid_x1) #[] cp_x1), (5, .int .i64 r10), (12, .bool (r10 == (-1 : Int)))] (by kernel_rfl) fun a20 hs21 => ?_
  refine nd_done ?_
  by_cases hb22 : r10 = (-1 : Int)
  · rw [if_pos hb22] at hr
    rw [(eqT hb22)] at hs21
    refine to_then (.tmp 12) (sub [1, 1, 0, 1, 0] f32_c) (sub [1, 1, 0, 1, 1] f32_c) (by kernel_rfl) hs21 (by kernel_rfl) ?_
    refine to_seq (sub [1, 1, 0, 1, 0, 0] f32_c) (sub [1, 1, 0, 1, 0, 1] f32_c) (by kernel_rfl) ?_
    refine to_nd 3 2 (rops (sub [1, 1, 0, 1, 0, 0] f32_c)) (by kernel_rfl) (by kernel_rfl) ?_
    refine nd_q (c := 0) 2 [4] hs21 [(4, .slice a_x0 x0.length c_x0)] (by kernel_rfl) fun a23 hs24 => ?_
    refine nd_done ?_
    exact to_ret (v := .slice a_x0 x0.length c_x0) (by kernel_rfl) hbf Try.func32 hbk hs24 (by kernel_rfl) (hQ hr (Mem.le.refl _) hst17 h_x0)
  rw [if_neg hb22] at hr
  rw [(eqF hb22)] at hs21
  refine to_else (.tmp 12) (sub [1, 1, 0, 1, 0] f32_c) (sub [1, 1, 0, 1, 1] f32_c) (by kernel_rfl) hs21 (by kernel_rfl) ?_
  refine to_skip (by kernel_rfl) ?_
  refine to_seq (sub [1, 1, 1, 0] f32_c) (sub [1, 1, 1, 1] f32_c) (by kernel_rfl) ?_
  refine to_seq (sub [1, 1, 1, 0, 0] f32_c) (sub [1, 1, 1, 0, 1] f32_c) (by kernel_rfl) ?_
  refine to_nd 4 3 (rops (sub [1, 1, 1, 0, 0] f32_c)) (by kernel_rfl) (by kernel_rfl) ?_
  refine nd_q (c := 0) 3 [0, 1, 5, 6] hs21 [(0, .slice a_x0 x0.length c_x0), (1, .func (.func fid_x1) #[] cp_x1), (5, .int .i64 r10), (6, .int .i64 (w64 (r10 + (1 : Int))))] (by kernel_rfl) fun a25 hs26 => ?_
  refine nd_done ?_
  refine to_block 0 (sub [1, 1, 1, 0, 1, 0] f32_c) (by kernel_rfl) ?_
  refine to_loop (sub [1, 1, 1, 0, 1, 0, 0] f32_c) (by kernel_rfl) ?_
  have hs27 := hs26.kept [0, 1, 5, 6] [(0, .slice a_x0 x0.length c_x0), (1, .func (.func fid_x1) #[] cp_x1), (5, .int .i64 r10), (6, .int .i64 (w64 (r10 + (1 : Int))))] (by kernel_rfl)
  refine f32_l1_ok hbf hbk h_x1  ?_ hr (Mem.le.refl _) hst17 hs27 h_x0 hf10_0_0 (wrap_in .i64 _)
  intro s'0e28 i'5e28 hr
  intro m29 w31 a33 a_s'0e28 c_s'0e28 I_s'0e28 hm30 hst32 hs34 h_s'0e28 h_i'5e28
  refine to_seq (sub [1, 1, 1, 1, 0] f32_c) (sub [1, 1, 1, 1, 1] f32_c) (by kernel_rfl) ?_
  refine to_nd 11 4 (rops (sub [1, 1, 1, 1, 0] f32_c)) (by kernel_rfl) (by kernel_rfl) ?_
  refine nd_q (c := 2) 2 [0, 5, 36, 37] hs34 [(0, .slice a_s'0e28 s'0e28.length c_s'0e28), (5, .int .i64 i'5e28), (36, .slice a_s'0e28 s'0e28.length c_s'0e28), (37, .int .i64 i'5e28)] (by kernel_rfl) fun a35 hs36 => ?_
  obtain ⟨r37, hcq38, hr⟩ := ofO_el hr
  refine nd_v (i := 2) (c := 1) 38 (.slice (cutA a_s'0e28 c_s'0e28 i'5e28 1) r37.length (c_s'0e28 - (i'5e28).toNat)) hs36 (by kernel_rfl) (osub_run (P := Try.prog) (w := w31) h_s'0e28 hcq38 (by kernel_rfl)) fun a39 hs40 => ?_
  obtain ⟨Iq41, wq41, hxq41, hstq41, hoq41, hloq41⟩ := own_clear (P := Try.prog) (o := opAt (rops (sub [1, 1, 1, 1, 0] f32_c)) 3) (ρ := Env.rho hs40.env) (zl := [.int .i64 (0 : Int)]) (by kernel_rfl) hst32 h_s'0e28 (kInt_mk (inr_of (by kernel_rfl))) rfl hcq38
  have hlq41 : s'0e28.length = ((clr s'0e28 i'5e28 (0 : Int))).length := (clr_length _ _ _ hloq41).symm
  refine nd_op (op_v none (.tuple #[]) hs40 (by kernel_rfl) hxq41 fun a42 hs43 => ?_)
  try rw [hlq41] at hs43
  try rw [hlq41] at hstq41
  refine nd_done ?_
  refine to_seq (sub [1, 1, 1, 1, 1, 0] f32_c) (sub [1, 1, 1, 1, 1, 1] f32_c) (by kernel_rfl) ?_
  refine to_nd 12 4 (rops (sub [1, 1, 1, 1, 1, 0] f32_c)) (by kernel_rfl) (by kernel_rfl) ?_
  refine nd_q (c := 2) 2 [39, 40] hs43 [(39, .slice a_s'0e28 (clr s'0e28 i'5e28 (0 : Int)).length c_s'0e28), (40, .int .i64 i'5e28)] (by kernel_rfl) fun a44 hs45 => ?_
  obtain ⟨r46, hcq47, hr⟩ := ofO_el hr
  obtain ⟨hfq47, hXq47⟩ := own_pre hoq41 hcq47
  refine nd_v (i := 2) (c := 1) 41 (.slice a_s'0e28 r46.length c_s'0e28) hs45 (by kernel_rfl) (hXq47 (P := Try.prog) (w := wq41) (by kernel_rfl)) fun a48 hs49 => ?_
  refine nd_q (c := 0) 1 [4] hs49 [(4, .slice a_s'0e28 r46.length c_s'0e28)] (by kernel_rfl) fun a50 hs51 => ?_
  refine nd_done ?_
  exact to_ret (v := .slice a_s'0e28 r46.length c_s'0e28) (by kernel_rfl) hbf Try.func32 hbk hs51 (by kernel_rfl) (hQ hr hm30 hstq41 hfq47)
/-! ### 33: (*salchow/channel.Channel).Deliverable$1 -/
noncomputable def f33_c : Code := codeOf Try.f33
def f33_post (z : Base) (m : Mem) (G : List Grp)  (Q : Bool → Prop) : Ending → World → Prop := fun e w' => ∃ (r : Bool) , W.St z w' m (G) ∧ e = .returned (.bool r) ∧ Q r
def f33_YR (z : Base) (m0 : Mem) (G : List Grp) (R : Ending → World → Prop)  (r : Bool) : Prop := ∀ {m : Mem} {w : World} , m0.le m → W.St z w m (G) →  R (.returned (.bool r)) w
theorem f33_YR_mono {z : Base} {m0 m1 : Mem} {G : List Grp} {R : Ending → World → Prop}  {r : Bool} (hm : m0.le m1) (h : f33_YR z m0 G R  r) : f33_YR z m1 G R  r := by
  intro m w  hm'
  exact h (hm.trans hm')
def f33  (x0 : Int) (y0 : (Option S62)) : M Bool := fun Q => onPtr y0 False (fun y17 => look y17.f1 x0 (⟨(0 : Int), (0 : Int), ByteArray.empty⟩ : S36) fun v35 ok36 => f34 y17 v35 fun r41 => Q (!r41))
theorem f33_ok  {z : Base} {w : World} {m : Mem} {G : List Grp} {ad_y0 : Addr} {p_y0_0 : Option Addr} {x0 : Int} {y0 : (Option S62)} {Q : Bool → Prop} (hst : W.St z w m (G)) (h_x0 : InR .i64 x0) (hA_y0 : At m ad_y0 1 (cells [.pointer p_y0_0])) (h_y0_0 : PtrV k62 m p_y0_0 y0) (hr : f33  x0 y0 Q) : Calls Try.prog 33 #[.int .i64 x0, .pointer (some ad_y0)] w (f33_post z m G  Q) := by
  refine calls_begin (c := f33_c) (n := 13) [.int .i64 x0, .pointer (some ad_y0)] Try.func33 (by kernel_rfl) Try.ntmps33 (Nat.le_of_ble_eq_true rfl) fun b cs a0 hbf hbk hs0 => ?_
  have hm0 := Mem.le.refl m
  have hQ : ∀ {r : Bool}, Q r → f33_YR z m G (f33_post z m G  Q)  r := by intro r hq m' w'  hm' hst' ; exact ⟨r,  W.St.less hm' hst', rfl, hq⟩
  unfold f33 at hr
  refine to_seq (sub [0] f33_c) (sub [1] f33_c) (by kernel_rfl) ?_
  refine to_nd 0 1 (rops (sub [0] f33_c)) (by kernel_rfl) (by kernel_rfl) ?_
  refine nd_q (c := 0) 1 [0, 1] hs0 [(0, .int .i64 x0), (1, .pointer (some ad_y0))] (by kernel_rfl) fun a1 hs2 => ?_
  refine nd_done ?_
  refine to_seq (sub [1, 0] f33_c) (sub [1, 1] f33_c) (by kernel_rfl) ?_
  have hs3 := hs2.kept [0, 1] [(0, .int .i64 x0), (1, .pointer (some ad_y0))] (by kernel_rfl)
  refine to_dr 1 10 (rops (sub [1, 0] f33_c)) (by kernel_rfl) (by kernel_rfl) (by kernel_rfl) [] (fun w => Go.Proofs.Ytcnlbnccghjeaaa.W.St z w m (G)) (fun _ _ => True) fun hd4 => ?_
  have hst6 := hst.drawn (w.drawn + 1)
  generalize hw7 : ({ w with drawn := w.drawn + 1 } : World) = w5 at hst6 ⊢
  clear hw7
  refine dr_vp (fuel := 9) 0 4 (.pointer p_y0_0) [] hs3 hd4 ⟨hst6, fun _ hx => by cases hx⟩ (by kernel_rfl) (by kernel_rfl) (by kernel_rfl) (fun _ hx => by cases hx) (by kernel_rfl) (fun w hT hF => ld1_run (P := Try.prog) (ad := ad_y0) (by kernel_rfl) (hA_y0.cell0 hT (Nat.le_of_ble_eq_true rfl))) fun a9 hs10 hd8 hS11 => ?_
  refine dr_vp (fuel := 8) 1 5 (.pointer p_y0_0) [] hs10 hd8 ⟨hst6, fun _ hx => by cases hx⟩ (by kernel_rfl) (by kernel_rfl) (by kernel_rfl) (fun _ hx => by cases hx) (by kernel_rfl) (fun w hT hF => ld1_run (P := Try.prog) (ad := ad_y0) (by kernel_rfl) (hA_y0.cell0 hT (Nat.le_of_ble_eq_true rfl))) fun a13 hs14 hd12 hS15 => ?_
  obtain ⟨hx18, _⟩ | ⟨y17, adq19, cq19, hx18, rfl, hAq19, hRq19⟩ := h_y0_0
  · exact (onPtr_none hx18 hr).elim
  replace hr := onPtr_some hx18 hr
  obtain ⟨aq19_0, cq19_0, rq19_1, aq19_2, cq19_2, heq19, hfq19_0, hfq19_1, hfq19_2, hfq19_3, hfq19_4, hfq19_5⟩ := k62_open hRq19
  have hBq19 := hAq19.conv heq19
  have hs20 := hs14.kept [0, 1, 4, 5] [(0, .int .i64 x0), (1, .pointer (some ad_y0)), (4, .pointer (some adq19)), (5, .pointer (some adq19))] (by kernel_rfl)
  refine dr_q (fuel := 6) [2, 3] [0, 4, 7] [] hs20 hd12 ⟨hst6, fun _ hx => by cases hx⟩ (by kernel_rfl) (by kernel_rfl) ([(7, .pointer (some ⟨adq19.block, adq19.off + 1, none⟩)), (6, .pointer (some adq19))] ++ [(0, .int .i64 x0), (1, .pointer (some ad_y0)), (4, .pointer (some adq19)), (5, .pointer (some adq19))]) [(0, .int .i64 x0), (4, .pointer (some adq19)), (7, .pointer (some ⟨adq19.block, adq19.off + 1, none⟩))] (by kernel_rfl) (by kernel_rfl) (fun _ hx => by cases hx) (fun w hT _ => by kernel_rfl) fun a21 hs22 hd23 hS24 => ?_
  refine dr_vp (fuel := 5) 4 8 (.map rq19_1) [] hs22 hd23 ⟨hst6, fun _ hx => by cases hx⟩ (by kernel_rfl) (by kernel_rfl) (by kernel_rfl) (fun _ hx => by cases hx) (by kernel_rfl) (fun w hT hF => ld1_run (P := Try.prog) (ad := ⟨adq19.block, adq19.off + 1, none⟩) (by kernel_rfl) (hBq19.cell hT (j := 1) (Nat.le_of_ble_eq_true rfl))) fun a26 hs27 hd25 hS28 => ?_
  refine dr_q (fuel := 4) [5] [4, 8, 9] [] hs27 hd25 ⟨hst6, fun _ hx => by cases hx⟩ (by kernel_rfl) (by kernel_rfl) ([(9, .int .i64 x0)] ++ ((8, .map rq19_1) :: [(0, .int .i64 x0), (4, .pointer (some adq19)), (7, .pointer (some ⟨adq19.block, adq19.off + 1, none⟩))])) [(4, .pointer (some adq19)), (8, .map rq19_1), (9, .int .i64 x0)] (by kernel_rfl) (by kernel_rfl) (fun _ hx => by cases hx) (fun w hT _ => by kernel_rfl) fun a29 hs30 hd31 hS32 => ?_
  obtain ⟨v35, ok36, hcq34, hr⟩ := look_el hr
  obtain ⟨vq34, hvq34, hXq34⟩ := imm_look 3 (Vl.ofA (k36_mk (inr_of (by kernel_rfl)) (inr_of (by kernel_rfl)) empty_small) rfl rfl) hfq19_1 hcq34
  obtain ⟨rfl, hfq34_0, hfq34_1, hfq34_2⟩ := Vl36 hvq34
  refine dr_vp (fuel := 3) 6 10 (.agg #[.int .i64 v35.f0, .int .i64 v35.f1, .string v35.f2]) [] hs30 hd31 ⟨hst6, fun _ hx => by cases hx⟩ (by kernel_rfl) (by kernel_rfl) (by kernel_rfl) (fun _ hx => by cases hx) (by kernel_rfl) (fun w hT hF => hXq34 (P := Try.prog) (w := w) (ok := false) (keyInt (T := 3) (by kernel_rfl)) (by kernel_rfl) hT) fun a37 hs38 hd33 hS39 => ?_
  refine dr_op (i := 7) hd33 (by kernel_rfl) fun hd40 => op_call (some 11) hs38 (by kernel_rfl) (by kernel_rfl) ((f34_ok hst6 hBq19 hfq19_0 hfq19_1 hfq19_2 hfq19_3 hfq19_4 hfq19_5 hfq34_0 hfq34_1 hfq34_2 hr).mono ?_)
  rintro _ w42 ⟨r41, hst45, rfl, hr⟩
  revert hr; intro hr
  refine ⟨_, rfl, fun a43 hs44 => ?_⟩
  refine ⟨⟨hst45, fun _ hx => by cases hx⟩, reset_none (es' := []) (T' := (fun w => Go.Proofs.Ytcnlbnccghjeaaa.W.St z w m (G))) (F' := (fun _ _ => True)) (fun w hT => ?_) ?_⟩
  · exact hT
  have hs48 := hs44.kept [4, 8, 9, 10, 11] [(4, .pointer (some adq19)), (8, .map rq19_1), (9, .int .i64 x0), (10, .agg #[.int .i64 v35.f0, .int .i64 v35.f1, .string v35.f2]), (11, .bool r41)] (by kernel_rfl)
  refine dr_q (fuel := 0) [8, 9] [3] [] hs48 hd40 ⟨hst45, fun _ hx => by cases hx⟩ (by kernel_rfl) (by kernel_rfl) ([(3, .bool (!r41)), (12, .bool (!r41))] ++ [(4, .pointer (some adq19)), (8, .map rq19_1), (9, .int .i64 x0), (10, .agg #[.int .i64 v35.f0, .int .i64 v35.f1, .string v35.f2]), (11, .bool r41)]) [(3, .bool (!r41))] (by kernel_rfl) (by kernel_rfl) (fun _ hx => by cases hx) (fun w hT _ => by kernel_rfl) fun a49 hs50 hd51 hS52 => ?_
  refine dr_done (by kernel_rfl) ?_
  exact to_ret (v := .bool (!r41)) (by kernel_rfl) hbf Try.func33 hbk hs50 (by kernel_rfl) (hQ hr (Mem.le.refl _) hst45 )
/-! ### 19: (*salchow/channel.Channel).Deliverable -/
noncomputable def f19_c : Code := codeOf Try.f19
def f19_post (z : Base) (m : Mem) (G : List Grp)  (Q : (List Int) → Prop) : Ending → World → Prop := fun e w' => ∃ (r : (List Int)) (a0_0 : Option Addr) (c0_0 : Nat) (I0_0 : Grp), W.St z w' m (I0_0 :: G) ∧ e = .returned (.slice a0_0 r.length c0_0) ∧ OwnSl (kInt .i64) 8 3 m a0_0 c0_0 I0_0 r ∧ Q r
def f19_YR (z : Base) (m0 : Mem) (G : List Grp) (R : Ending → World → Prop)  (r : (List Int)) : Prop := ∀ {m : Mem} {w : World} {a0_0 : Option Addr} {c0_0 : Nat} {I0_0 : Grp}, m0.le m → W.St z w m (I0_0 :: G) → (OwnSl (kInt .i64) 8 3 m a0_0 c0_0 I0_0 r) →  R (.returned (.slice a0_0 r.length c0_0)) w
theorem f19_YR_mono {z : Base} {m0 m1 : Mem} {G : List Grp} {R : Ending → World → Prop}  {r : (List Int)} (hm : m0.le m1) (h : f19_YR z m0 G R  r) : f19_YR z m1 G R  r := by
  intro m w a0_0 c0_0 I0_0 hm'
  exact h (hm.trans hm')
def f19  (x0 : S62) : M (List Int) := fun Q => ofO (mk 8 (x0.f2.length : Int) (0 : Int)) fun r17 => f32 (cpy r17 x0.f2) (fun u0 => f33 u0 (some x0)) fun r41 => Q r41
theorem f19_ok  {z : Base} {w : World} {m : Mem} {G : List Grp} {ad_x0 : Addr} {a_x0_0 : Option Addr} {c_x0_0 : Nat} {r_x0_1 : Option Nat} {a_x0_2 : Option Addr} {c_x0_2 : Nat} {x0 : S62} {Q : (List Int) → Prop} (hst : W.St z w m (G)) (hA_x0 : At m ad_x0 6 (cells [.slice a_x0_0 x0.f0.length c_x0_0, .map r_x0_1, .slice a_x0_2 x0.f2.length c_x0_2, .int .i64 x0.f3, .int .i64 x0.f4, .int .i64 x0.f5])) (h_x0_0 : Sl kBool 1 m a_x0_0 c_x0_0 x0.f0) (h_x0_1 : ImmM (Value.int .i64) k36 m r_x0_1 x0.f1) (h_x0_2 : Sl (kInt .i64) 8 m a_x0_2 c_x0_2 x0.f2) (h_x0_3 : InR .i64 x0.f3) (h_x0_4 : InR .i64 x0.f4) (h_x0_5 : InR .i64 x0.f5) (hr : f19  x0 Q) : Calls Try.prog 19 #[.pointer (some ad_x0)] w (f19_post z m G  Q) := by
  refine calls_begin (c := f19_c) (n := 19) [.pointer (some ad_x0)] Try.func19 (by kernel_rfl) Try.ntmps19 (Nat.le_of_ble_eq_true rfl) fun b cs a0 hbf hbk hs0 => ?_
  have hm0 := Mem.le.refl m
  have hQ : ∀ {r : (List Int)}, Q r → f19_YR z m G (f19_post z m G  Q)  r := by intro r hq m' w' a0_0 c0_0 I0_0 hm' hst' hf0_0; exact ⟨r, a0_0, c0_0, I0_0,  W.St.less hm' hst', rfl, (OwnSl.flat flat_int hf0_0), hq⟩
  unfold f19 at hr
  refine to_seq (sub [0] f19_c) (sub [1] f19_c) (by kernel_rfl) ?_
  refine to_nd 0 2 (rops (sub [0] f19_c)) (by kernel_rfl) (by kernel_rfl) ?_
  have hst3 := hst.alloc (.cells [.pointer (some ad_x0)].toArray 23 (0, 0))
  refine nd_op (op_v (w' := w.alloc (.cells [.pointer (some ad_x0)].toArray 23 (0, 0))) (some 1) (.pointer (some ⟨w.heap.size, 0, none⟩)) hs0 (by kernel_rfl) (by kernel_rfl) fun a4 hs5 => ?_)
  generalize w.heap.size = b1 at hst3 hs5
  generalize w.alloc (.cells [.pointer (some ad_x0)].toArray 23 (0, 0)) = w2 at hst3 ⊢
  refine nd_q (c := 0) 1 [1] hs5 [(1, .pointer (some ⟨b1, 0, none⟩))] (by kernel_rfl) fun a6 hs7 => ?_
  refine nd_done ?_
  refine to_seq (sub [1, 0] f19_c) (sub [1, 1] f19_c) (by kernel_rfl) ?_
  refine to_nd 1 7 (rops (sub [1, 0] f19_c)) (by kernel_rfl) (by kernel_rfl) ?_
  refine nd_v (i := 0) (c := 6) 4 (.pointer (some ad_x0)) hs7 (by kernel_rfl) (ld1_run (P := Try.prog) (ad := ⟨b1, 0, none⟩) (by kernel_rfl) (W.St.ocell [] hst3 0 (Nat.le_of_ble_eq_true rfl))) fun a8 hs9 => ?_
  refine nd_q (c := 4) 2 [1, 6] hs9 [(1, .pointer (some ⟨b1, 0, none⟩)), (6, .pointer (some ⟨ad_x0.block, ad_x0.off + 2, none⟩))] (by kernel_rfl) fun a10 hs11 => ?_
  refine nd_v (i := 3) (c := 3) 7 (.slice a_x0_2 x0.f2.length c_x0_2) hs11 (by kernel_rfl) (ld1_run (P := Try.prog) (ad := ⟨ad_x0.block, ad_x0.off + 2, none⟩) (by kernel_rfl) (hA_x0.cell hst3 (j := 2) (Nat.le_of_ble_eq_true rfl))) fun a12 hs13 => ?_
  refine nd_q (c := 2) 1 [1, 8] hs13 [(1, .pointer (some ⟨b1, 0, none⟩)), (8, .int .i64 (x0.f2.length : Int))] (by kernel_rfl) fun a14 hs15 => ?_
  obtain ⟨r17, hcq16, hr⟩ := ofO_el hr
  obtain ⟨aq16, cq16, Iq16, wq16, hxq16, hstq16, hoq16⟩ := own_make (P := Try.prog) (o := opAt (rops (sub [1, 0] f19_c)) 5) (ρ := Env.rho hs15.env) (K := (kInt .i64)) (zl := [.int .i64 (0 : Int)]) (by kernel_rfl) hst3 (kInt_mk (inr_of (by kernel_rfl))) hcq16
  refine nd_op (op_v (some 9) (.slice aq16 r17.length cq16) hs15 (by kernel_rfl) hxq16 fun a18 hs19 => ?_)
  refine nd_q (c := 0) 1 [1, 3] hs19 [(1, .pointer (some ⟨b1, 0, none⟩)), (3, .slice aq16 r17.length cq16)] (by kernel_rfl) fun a20 hs21 => ?_
  refine nd_done ?_
  refine to_seq (sub [1, 1, 0] f19_c) (sub [1, 1, 1] f19_c) (by kernel_rfl) ?_
  refine to_nd 2 6 (rops (sub [1, 1, 0] f19_c)) (by kernel_rfl) (by kernel_rfl) ?_
  refine nd_q (c := 5) 1 [1, 3, 10] hs21 [(1, .pointer (some ⟨b1, 0, none⟩)), (3, .slice aq16 r17.length cq16), (10, .slice aq16 r17.length cq16)] (by kernel_rfl) fun a22 hs23 => ?_
  refine nd_v (i := 1) (c := 4) 11 (.pointer (some ad_x0)) hs23 (by kernel_rfl) (ld1_run (P := Try.prog) (ad := ⟨b1, 0, none⟩) (by kernel_rfl) (W.St.ocell [_] hstq16 0 (Nat.le_of_ble_eq_true rfl))) fun a24 hs25 => ?_
  refine nd_q (c := 2) 2 [1, 3, 10, 13] hs25 [(1, .pointer (some ⟨b1, 0, none⟩)), (3, .slice aq16 r17.length cq16), (10, .slice aq16 r17.length cq16), (13, .pointer (some ⟨ad_x0.block, ad_x0.off + 2, none⟩))] (by kernel_rfl) fun a26 hs27 => ?_
  refine nd_v (i := 4) (c := 1) 14 (.slice a_x0_2 x0.f2.length c_x0_2) hs27 (by kernel_rfl) (ld1_run (P := Try.prog) (ad := ⟨ad_x0.block, ad_x0.off + 2, none⟩) (by kernel_rfl) (hA_x0.cell hstq16 (j := 2) (Nat.le_of_ble_eq_true rfl))) fun a28 hs29 => ?_
  obtain ⟨Iq30, wq30, hxq30, hstq30, hoq30⟩ := own_copy (P := Try.prog) (o := opAt (rops (sub [1, 1, 0] f19_c)) 5) (ρ := Env.rho hs29.env) (by kernel_rfl) hstq16 hoq16 h_x0_2
  have hlq30 : r17.length = ((cpy r17 x0.f2)).length := (cpy_length _ _).symm
  refine nd_op (op_v (some 15) (.int .i64 (cpyN r17 x0.f2)) hs29 (by kernel_rfl) hxq30 fun a31 hs32 => ?_)
  try rw [hlq30] at hs32
  try rw [hlq30] at hstq30
  refine nd_done ?_
  refine to_seq (sub [1, 1, 1, 0] f19_c) (sub [1, 1, 1, 1] f19_c) (by kernel_rfl) ?_
  refine to_nd 3 4 (rops (sub [1, 1, 1, 0] f19_c)) (by kernel_rfl) (by kernel_rfl) ?_
  refine nd_q (c := 2) 2 [16, 17] hs32 [(16, .slice aq16 (cpy r17 x0.f2).length cq16), (17, .func (.func 33) #[] #[.pointer (some ⟨b1, 0, none⟩)])] (by kernel_rfl) fun a33 hs34 => ?_
  have hst35 := W.St.front [_] hstq30
  have hz37 := box_at hst35 1 rfl
  have hst38 := W.St.freeze hst35
  have hm39 := Mem.le_add m ([(b1, .cells [.pointer (some ad_x0)].toArray 23 (0, 0))])
  generalize hq40 : Mem.add m ([(b1, .cells [.pointer (some ad_x0)].toArray 23 (0, 0))]) = m36 at hz37 hst38 hm39
  refine nd_op (op_call (some 18) hs34 (by kernel_rfl) (by kernel_rfl) ((f32_ok hst38 (hoq30.mono hm39) (FnR31.mk (fn := Try.f33) (f := 33) (cp := #[.pointer (some ⟨b1, 0, none⟩)]) (by kernel_rfl) (by kernel_rfl) (by kernel_rfl) fun hm => fun hst h0_0 hr => calls_cast (f33_ok hst h0_0 (hz37.mono hm) (((PtrV.mk hA_x0 (k62_mk h_x0_0 h_x0_1 h_x0_2 h_x0_3 h_x0_4 h_x0_5)).mono hm39).mono hm) hr) (by kernel_rfl)) hr).mono ?_))
  rintro _ w42 ⟨r41, a41_0_0, c41_0_0, I41_0_0, hst45, rfl, hf41_0_0, hr⟩
  revert hr; intro hr
  refine ⟨_, rfl, fun a43 hs44 => ?_⟩
  have hst48 := W.St.thaw2 hst35 (by rw [hq40]; exact Mem.le.refl _) hst45
  refine nd_q (c := 0) 1 [2] hs44 [(2, .slice a41_0_0 r41.length c41_0_0)] (by kernel_rfl) fun a49 hs50 => ?_
  refine nd_done ?_
  have hst51 := W.St.drop [] hst48
  exact to_ret (v := .slice a41_0_0 r41.length c41_0_0) (by kernel_rfl) hbf Try.func19 hbk hs50 (by kernel_rfl) (hQ hr (Mem.le.refl _) hst51 (OwnSl.flat flat_int hf41_0_0))
/-! ### 26: (*salchow/channel.Channel).Drop -/
noncomputable def f26_c : Code := codeOf Try.f26
def f26_post (z : Base) (m : Mem) (G : List Grp) (b_x0 : Nat) (Q : (Int × S62) → Prop) : Ending → World → Prop := fun e w' => ∃ (r : (Int × S62)) (I_i0 : Grp), W.St z w' m (I_i0 :: G) ∧ e = .returned (.int .i64 r.1) ∧ InR .i64 r.1 ∧ OwnS62 m b_x0 I_i0 r.2 ∧ Q r
def f26_YR (z : Base) (m0 : Mem) (G : List Grp) (R : Ending → World → Prop) (b_x0 : Nat) (r : (Int × S62)) : Prop := ∀ {m : Mem} {w : World} {I_i0 : Grp}, m0.le m → W.St z w m (I_i0 :: G) → (InR .i64 r.1) → (OwnS62 m b_x0 I_i0 r.2) →  R (.returned (.int .i64 r.1)) w
theorem f26_YR_mono {z : Base} {m0 m1 : Mem} {G : List Grp} {R : Ending → World → Prop} {b_x0 : Nat} {r : (Int × S62)} (hm : m0.le m1) (h : f26_YR z m0 G R b_x0 r) : f26_YR z m1 G R b_x0 r := by
  intro m w I_i0 hm'
  exact h (hm.trans hm')
def f26  (x0 : S62) (x1 : Int) : M (Int × S62) := fun Q => look x0.f1 x1 (⟨(0 : Int), (0 : Int), ByteArray.empty⟩ : S36) fun v14 ok15 => if ok15 = true then (f36 x0 x1 fun r40 => Q ((0 : Int), (⟨r40.f0, r40.f1, r40.f2, r40.f3, r40.f4, (w64 (r40.f5 + (1 : Int)))⟩ : S62))) else (Q ((8 : Int), x0))
theorem f26_ok  {z : Base} {w : World} {m : Mem} {G : List Grp} {b_x0 : Nat} {I_x0 : Grp} {x0 : S62} {x1 : Int} {Q : (Int × S62) → Prop} (hst : W.St z w m (I_x0 :: G)) (h_x0 : OwnS62 m b_x0 I_x0 x0) (h_x1 : InR .i64 x1) (hr : f26  x0 x1 Q) : Calls Try.prog 26 #[.pointer (some ⟨b_x0, 0, none⟩), .int .i64 x1] w (f26_post z m G b_x0 Q) := by
  refine calls_begin (c := f26_c) (n := 28) [.pointer (some ⟨b_x0, 0, none⟩), .int .i64 x1] Try.func26 (by kernel_rfl) Try.ntmps26 (Nat.le_of_ble_eq_true rfl) fun b cs a0 hbf hbk hs0 => ?_
  have hm0 := Mem.le.refl m
  have hQ : ∀ {r : (Int × S62)}, Q r → f26_YR z m G (f26_post z m G b_x0 Q) b_x0 r := by intro r hq m' w' I_i0 hm' hst' hf0_0 hf_i0; exact ⟨r, I_i0,  W.St.less hm' hst', rfl, hf0_0, (OwnS62.flat hf_i0), hq⟩
  unfold f26 at hr
  refine to_seq (sub [0] f26_c) (sub [1] f26_c) (by kernel_rfl) ?_
  refine to_nd 0 1 (rops (sub [0] f26_c)) (by kernel_rfl) (by kernel_rfl) ?_
  refine nd_q (c := 0) 1 [0, 1] hs0 [(0, .pointer (some ⟨b_x0, 0, none⟩)), (1, .int .i64 x1)] (by kernel_rfl) fun a1 hs2 => ?_
  refine nd_done ?_
  refine to_seq (sub [1, 0] f26_c) (sub [1, 1] f26_c) (by kernel_rfl) ?_
  refine to_seq (sub [1, 0, 0] f26_c) (sub [1, 0, 1] f26_c) (by kernel_rfl) ?_
  refine to_nd 1 12 (rops (sub [1, 0, 0] f26_c)) (by kernel_rfl) (by kernel_rfl) ?_
  refine nd_q (c := 9) 3 [0, 1, 10] hs2 [(0, .pointer (some ⟨b_x0, 0, none⟩)), (1, .int .i64 x1), (10, .pointer (some ⟨b_x0, 1, none⟩))] (by kernel_rfl) fun a3 hs4 => ?_
  obtain ⟨aq5_0, cq5_0, Iq5_0, rq5_1, Iq5_1, aq5_2, cq5_2, Iq5_2, hI6, hfq5_0, hfq5_1, hfq5_2, hfq5_3, hfq5_4, hfq5_5⟩ := id h_x0
  have hst7 := hst
  rw [hI6] at hst7
  have hst8 := hst7.split.split.split
  refine nd_v (i := 3) (c := 8) 11 (.map (some rq5_1)) hs4 (by kernel_rfl) (ld1_run (P := Try.prog) (ad := ⟨b_x0, 1, none⟩) (by kernel_rfl) (W.St.ocell [] hst8 1 (Nat.le_of_ble_eq_true rfl))) fun a9 hs10 => ?_
  refine nd_q (c := 7) 1 [0, 1, 11, 12] hs10 [(0, .pointer (some ⟨b_x0, 0, none⟩)), (1, .int .i64 x1), (11, .map (some rq5_1)), (12, .int .i64 x1)] (by kernel_rfl) fun a11 hs12 => ?_
  obtain ⟨v14, ok15, hcq13, hr⟩ := look_el hr
  obtain ⟨vq13, hvq13, hXq13⟩ := own_look 3 (Vl.ofA (k36_mk (inr_of (by kernel_rfl)) (inr_of (by kernel_rfl)) empty_small) rfl rfl) hfq5_1 hcq13
  obtain ⟨rfl, hfq13_0, hfq13_1, hfq13_2⟩ := Vl36 hvq13
  refine nd_v (i := 5) (c := 6) 13 (.tuple #[.agg #[.int .i64 v14.f0, .int .i64 v14.f1, .string v14.f2], .bool ok15]) hs12 (by kernel_rfl) (hXq13 (P := Try.prog) (w := w) (ok := true) (keyInt (T := 3) (by kernel_rfl)) (by kernel_rfl) (W.St.front [_, _] hst8)) fun a16 hs17 => ?_
  refine nd_q (c := 3) 3 [0, 1, 14, 15] hs17 [(0, .pointer (some ⟨b_x0, 0, none⟩)), (1, .int .i64 x1), (14, .agg #[.int .i64 v14.f0, .int .i64 v14.f1, .string v14.f2]), (15, .bool ok15)] (by kernel_rfl) fun a18 hs19 => ?_
  have hst22 := hst8.alloc (.cells [.int .i64 (0 : Int), .int .i64 (0 : Int), .string ByteArray.empty].toArray 37 (0, 0))
  refine nd_op (op_v (w' := w.alloc (.cells [.int .i64 (0 : Int), .int .i64 (0 : Int), .string ByteArray.empty].toArray 37 (0, 0))) (some 5) (.pointer (some ⟨w.heap.size, 0, none⟩)) hs19 (by kernel_rfl) (by kernel_rfl) fun a23 hs24 => ?_)
  generalize w.heap.size = b20 at hst22 hs24
  generalize w.alloc (.cells [.int .i64 (0 : Int), .int .i64 (0 : Int), .string ByteArray.empty].toArray 37 (0, 0)) = w21 at hst22 ⊢
  obtain ⟨wq25, hxq25, hstq25⟩ := stq_run (P := Try.prog) (o := opAt (rops (sub [1, 0, 0] f26_c)) 10) (ρ := Env.rho hs24.env) (off := 0) (vs := [.int .i64 v14.f0, .int .i64 v14.f1, .string v14.f2]) (by kernel_rfl) (by kernel_rfl) (Nat.le_of_ble_eq_true rfl) hst22 [.int .i64 v14.f0, .int .i64 v14.f1, .string v14.f2] rfl
  refine nd_op (op_s none hs24 (by kernel_rfl) hxq25 fun a26 hs27 => ?_)
  refine nd_q (c := 0) 1 [0, 1, 6] hs27 [(0, .pointer (some ⟨b_x0, 0, none⟩)), (1, .int .i64 x1), (6, .bool ok15)] (by kernel_rfl) fun a28 hs29 => ?_
  refine nd_done ?_
  refine to_seq (sub [1, 0, 1, 0] f26_c) (sub [1, 0, 1, 1] f26_c) (by kernel_rfl) ?_
  refine to_nd 2 2 (rops (sub [1, 0, 1, 0] f26_c)) (by kernel_rfl) (by kernel_rfl) ?_
  refine nd_q (c := 0) 2 [0, 1, 17] hs29 [(0, .pointer (some ⟨b_x0, 0, none⟩)), (1, .int .i64 x1), (17, .bool (!ok15))] (by kernel_rfl) fun a30 hs31 => ?_
  refine nd_done ?_
  by_cases hb32 : ok15 = true
  rotate_left
  · rw [if_neg hb32] at hr
    rw [(bF hb32)] at hs31
    refine to_then (.tmp 17) (sub [1, 0, 1, 1, 0] f26_c) (sub [1, 0, 1, 1, 1] f26_c) (by kernel_rfl) hs31 (by kernel_rfl) ?_
    refine to_seq (sub [1, 0, 1, 1, 0, 0] f26_c) (sub [1, 0, 1, 1, 0, 1] f26_c) (by kernel_rfl) ?_
    refine to_nd 3 1 (rops (sub [1, 0, 1, 1, 0, 0] f26_c)) (by kernel_rfl) (by kernel_rfl) ?_
    refine nd_q (c := 0) 1 [4] hs31 [(4, .int .i64 (8 : Int))] (by kernel_rfl) fun a70 hs71 => ?_
    refine nd_done ?_
    have hst72 := W.St.front [_, _, _, _] hstq25
    have hst73 := W.St.front [_, _, _, _] hst72
    have hst74 := W.St.front [_, _, _, _] hst73
    have hst75 := W.St.front [_, _, _, _] hst74
    have hst76 := hst75.join.join.join
    rw [← hI6] at hst76
    have hst77 := W.St.drop [_] hst76
    exact to_ret (v := .int .i64 (8 : Int)) (by kernel_rfl) hbf Try.func26 hbk hs71 (by kernel_rfl) (hQ hr (Mem.le.refl _) hst77 (inr_of (by kernel_rfl)) h_x0)
  rw [if_pos hb32] at hr
  rw [(bT hb32)] at hs31
  refine to_else (.tmp 17) (sub [1, 0, 1, 1, 0] f26_c) (sub [1, 0, 1, 1, 1] f26_c) (by kernel_rfl) hs31 (by kernel_rfl) ?_
  refine to_skip (by kernel_rfl) ?_
  refine to_seq (sub [1, 1, 0] f26_c) (sub [1, 1, 1] f26_c) (by kernel_rfl) ?_
  refine to_nd 4 3 (rops (sub [1, 1, 0] f26_c)) (by kernel_rfl) (by kernel_rfl) ?_
  refine nd_q (c := 1) 2 [0, 18, 19] hs31 [(0, .pointer (some ⟨b_x0, 0, none⟩)), (18, .pointer (some ⟨b_x0, 0, none⟩)), (19, .int .i64 x1)] (by kernel_rfl) fun a33 hs34 => ?_
  have hst35 := W.St.front [_, _, _, _] hstq25
  have hst36 := W.St.front [_, _, _, _] hst35
  have hst37 := W.St.front [_, _, _, _] hst36
  have hst38 := W.St.front [_, _, _, _] hst37
  have hst39 := hst38.join.join.join
  rw [← hI6] at hst39
  refine nd_op (op_call (some 20) hs34 (by kernel_rfl) (by kernel_rfl) ((f36_ok hst39 h_x0 h_x1 hr).mono ?_))
  rintro _ w41 ⟨r40, I40_i0, hst44, rfl, hf40_i0, hr⟩
  revert hr; intro hr
  refine ⟨_, rfl, fun a42 hs43 => ?_⟩
  refine nd_done ?_
  refine to_seq (sub [1, 1, 1, 0] f26_c) (sub [1, 1, 1, 1] f26_c) (by kernel_rfl) ?_
  refine to_nd 5 8 (rops (sub [1, 1, 1, 0] f26_c)) (by kernel_rfl) (by kernel_rfl) ?_
  refine nd_q (c := 5) 3 [21, 23] hs43 [(21, .pointer (some ⟨b_x0, 0, none⟩)), (23, .pointer (some ⟨b_x0, 5, none⟩))] (by kernel_rfl) fun a47 hs48 => ?_
  obtain ⟨aq49_0, cq49_0, Iq49_0, rq49_1, Iq49_1, aq49_2, cq49_2, Iq49_2, hI50, hfq49_0, hfq49_1, hfq49_2, hfq49_3, hfq49_4, hfq49_5⟩ := id hf40_i0
  have hst51 := hst44
  rw [hI50] at hst51
  have hst52 := hst51.split.split.split
  refine nd_v (i := 3) (c := 4) 24 (.int .i64 r40.f5) hs48 (by kernel_rfl) (ld1_run (P := Try.prog) (ad := ⟨b_x0, 5, none⟩) (by kernel_rfl) (W.St.ocell [] hst52 5 (Nat.le_of_ble_eq_true rfl))) fun a53 hs54 => ?_
  refine nd_q (c := 1) 3 [25, 27] hs54 [(25, .int .i64 (w64 (r40.f5 + (1 : Int)))), (27, .pointer (some ⟨b_x0, 5, none⟩))] (by kernel_rfl) fun a55 hs56 => ?_
  obtain ⟨wq57, hxq57, hstq57⟩ := stq_run (P := Try.prog) (o := opAt (rops (sub [1, 1, 1, 0] f26_c)) 7) (ρ := Env.rho hs56.env) (off := 5) (vs := [.int .i64 (w64 (r40.f5 + (1 : Int)))]) (by kernel_rfl) (by kernel_rfl) (Nat.le_of_ble_eq_true rfl) hst52 [.slice aq49_0 r40.f0.length cq49_0, .map (some rq49_1), .slice aq49_2 r40.f2.length cq49_2, .int .i64 r40.f3, .int .i64 r40.f4, .int .i64 (w64 (r40.f5 + (1 : Int)))] rfl
  refine nd_op (op_s none hs56 (by kernel_rfl) hxq57 fun a58 hs59 => ?_)
  refine nd_done ?_
  refine to_seq (sub [1, 1, 1, 1, 0] f26_c) (sub [1, 1, 1, 1, 1] f26_c) (by kernel_rfl) ?_
  refine to_nd 6 1 (rops (sub [1, 1, 1, 1, 0] f26_c)) (by kernel_rfl) (by kernel_rfl) ?_
  refine nd_q (c := 0) 1 [4] hs59 [(4, .int .i64 (0 : Int))] (by kernel_rfl) fun a60 hs61 => ?_
  refine nd_done ?_
  have hst62 := W.St.front [_, _, _] hstq57
  have hst63 := W.St.front [_, _, _] hst62
  have hst64 := W.St.front [_, _, _] hst63
  have hst65 := W.St.front [_, _, _] hst64
  have hst66 := hst65.join.join.join
  have ho67 : OwnS62 m b_x0 (((([(b_x0, .cells [.slice aq49_0 r40.f0.length cq49_0, .map (some rq49_1), .slice aq49_2 r40.f2.length cq49_2, .int .i64 r40.f3, .int .i64 r40.f4, .int .i64 (w64 (r40.f5 + (1 : Int)))].toArray 63 (0, 0))] ++ Iq49_0) ++ Iq49_1) ++ Iq49_2)) (⟨r40.f0, r40.f1, r40.f2, r40.f3, r40.f4, (w64 (r40.f5 + (1 : Int)))⟩ : S62) := ⟨aq49_0, cq49_0, Iq49_0, rq49_1, Iq49_1, aq49_2, cq49_2, Iq49_2, rfl, hfq49_0, hfq49_1, hfq49_2, hfq49_3, hfq49_4, (wrap_in .i64 _)⟩
  generalize ((([(b_x0, .cells [.slice aq49_0 r40.f0.length cq49_0, .map (some rq49_1), .slice aq49_2 r40.f2.length cq49_2, .int .i64 r40.f3, .int .i64 r40.f4, .int .i64 (w64 (r40.f5 + (1 : Int)))].toArray 63 (0, 0))] ++ Iq49_0) ++ Iq49_1) ++ Iq49_2) = I68 at ho67 hst66
  have hst69 := W.St.drop [_] hst66
  exact to_ret (v := .int .i64 (0 : Int)) (by kernel_rfl) hbf Try.func26 hbk hs61 (by kernel_rfl) (hQ hr (Mem.le.refl _) hst69 (inr_of (by kernel_rfl)) ho67)
end Go.Proofs.Ytcnlbnccghjeaaa.W
