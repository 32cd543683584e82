/- Printed by gen2.py: Go functions as Lean functions, and the proofs that the calls come to them. Conditions: none. -/
import Derived.Test.YtcnlbnccghjeaaaT
set_option linter.unusedVariables false
set_option linter.unusedSimpArgs false
set_option maxRecDepth 100000
namespace Go.Proofs.Ytcnlbnccghjeaaa.W
open Go

/-! ### 10: salchow/channel.New -/
noncomputable def f10_c : Code := codeOf Try.f10
def f10_post (z : Base) (m : Mem) (G : List Grp)  (Q : ((Option S62) × Int) → Prop) : Ending → World → Prop := fun e w' => ∃ (r : ((Option S62) × Int)) (p0_0 : Option Addr) (I0_0 : Grp), W.St z w' m (I0_0 :: G) ∧ e = .returned (.tuple #[.pointer p0_0, .int .i64 r.2]) ∧ OwnN62 m p0_0 I0_0 r.1 ∧ InR .i64 r.2 ∧ Q r
def f10_YR (z : Base) (m0 : Mem) (G : List Grp) (R : Ending → World → Prop)  (r : ((Option S62) × Int)) : Prop := ∀ {m : Mem} {w : World} {p0_0 : Option Addr} {I0_0 : Grp}, m0.le m → W.St z w m (I0_0 :: G) → (OwnN62 m p0_0 I0_0 r.1) → (InR .i64 r.2) →  R (.returned (.tuple #[.pointer p0_0, .int .i64 r.2])) w
theorem f10_YR_mono {z : Base} {m0 m1 : Mem} {G : List Grp} {R : Ending → World → Prop}  {r : ((Option S62) × Int)} (hm : m0.le m1) (h : f10_YR z m0 G R  r) : f10_YR z m1 G R  r := by
  intro m w p0_0 I0_0 hm'
  exact h (hm.trans hm')
def f10_j1_Y (z : Base) (m0 : Mem) (G : List Grp) (b : Frame) (cs : List Frame) (R : Ending → World → Prop) (x0 : Int) (t'9 : Bool) : Prop := ∀ {m : Mem} {w : World} {a : Act} , m0.le m → W.St z w m (G) → Has 16 a [(0, .int .i64 x0), (9, .bool t'9)] →  Reach Try.prog b cs R [.code (sub [1, 0, 1] f10_c), .code (sub [1, 1] f10_c)] a w
def f10_j1 (x0 : Int) (Q : ((Option S62) × Int) → Prop) (t'9 : Bool) : Prop := if t'9 = true then (Q ((none : Option S62), (1 : Int))) else (ofO (mk 1 (w64 (x0 + (1 : Int))) false) fun r8 => Q ((some (⟨r8, ([] : List (Int × S36)), ([] : List Int), (0 : Int), (0 : Int), (0 : Int)⟩ : S62)), (0 : Int)))
theorem f10_j1_ok {z : Base} {m0 : Mem} {G : List Grp} {b : Frame} {cs : List Frame} {R : Ending → World → Prop} {x0 : Int} {Q : ((Option S62) × Int) → Prop} (hbf : b.fn = 10) (hbk : b.kind = .normal) (h_x0 : InR .i64 x0)  (hQ : ∀ {r : ((Option S62) × Int)}, Q r → f10_YR z m0 G R  r) : ∀ {t'9 : Bool}, f10_j1 x0 Q t'9 → f10_j1_Y z m0 G b cs R x0 t'9 := by
  intro t'9 hr m w a0  hm0 hst hs0 
  unfold f10_j1 at hr
  by_cases hb1 : t'9 = true
  · rw [if_pos hb1] at hr
    rw [(bT hb1)] at hs0
    refine to_then (.tmp 9) (sub [1, 0, 1, 0] f10_c) (sub [1, 0, 1, 1] f10_c) (by kernel_rfl) hs0 (by kernel_rfl) ?_
    refine to_seq (sub [1, 0, 1, 0, 0] f10_c) (sub [1, 0, 1, 0, 1] f10_c) (by kernel_rfl) ?_
    refine to_nd 2 2 (rops (sub [1, 0, 1, 0, 0] f10_c)) (by kernel_rfl) (by kernel_rfl) ?_
    refine nd_q (c := 0) 2 [2, 3] hs0 [(2, .pointer none), (3, .int .i64 (1 : Int))] (by kernel_rfl) fun a2 hs3 => ?_
    refine nd_done ?_
    have hst4 := hst.nil
    exact to_ret (v := .tuple #[.pointer none, .int .i64 (1 : Int)]) (by kernel_rfl) hbf Try.func10 hbk hs3 (by kernel_rfl) (hQ hr hm0 hst4 OwnN62.nil (inr_of (by kernel_rfl)))
  rw [if_neg hb1] at hr
  rw [(bF hb1)] at hs0
  refine to_else (.tmp 9) (sub [1, 0, 1, 0] f10_c) (sub [1, 0, 1, 1] f10_c) (by kernel_rfl) hs0 (by kernel_rfl) ?_
  refine to_skip (by kernel_rfl) ?_
  refine to_seq (sub [1, 1, 0] f10_c) (sub [1, 1, 1] f10_c) (by kernel_rfl) ?_
  refine to_nd 3 8 (rops (sub [1, 1, 0] f10_c)) (by kernel_rfl) (by kernel_rfl) ?_
  refine nd_q (c := 6) 2 [11] hs0 [(11, .int .i64 (w64 (x0 + (1 : Int))))] (by kernel_rfl) fun a5 hs6 => ?_
  obtain ⟨r8, hcq7, hr⟩ := ofO_el hr
  obtain ⟨aq7, cq7, Iq7, wq7, hxq7, hstq7, hoq7⟩ := own_make (P := Try.prog) (o := opAt (rops (sub [1, 1, 0] f10_c)) 2) (ρ := Env.rho hs6.env) (K := kBool) (zl := [.bool false]) (by kernel_rfl) hst kBool_mk hcq7
  refine nd_op (op_v (some 12) (.slice aq7 r8.length cq7) hs6 (by kernel_rfl) hxq7 fun a9 hs10 => ?_)
  have ho16 : OwnM (Value.int .i64) k36 m wq7.heap.size [(wq7.heap.size, .map #[] 0)] ([] : List (Int × S36)) := OwnM.new
  have hst13 := hstq7.alloc (.map #[] 0)
  refine nd_op (op_v (w' := wq7.alloc (.map #[] 0)) (some 13) (.map (some wq7.heap.size)) hs10 (by kernel_rfl) (by kernel_rfl) fun a14 hs15 => ?_)
  generalize wq7.heap.size = b11 at hst13 hs15 ho16
  generalize wq7.alloc (.map #[] 0) = w12 at hst13 ⊢
  generalize [(b11, (.map #[] 0 : Obj))] = I17 at hst13 ho16
  refine nd_q (c := 3) 1 [14] hs15 [(14, .agg #[.slice aq7 r8.length cq7, .map (some b11), .slice none 0 0, .int .i64 (0 : Int), .int .i64 (0 : Int), .int .i64 (0 : Int)])] (by kernel_rfl) fun a18 hs19 => ?_
  have hst22 := hst13.alloc (.cells [.slice aq7 r8.length cq7, .map (some b11), .slice none 0 0, .int .i64 (0 : Int), .int .i64 (0 : Int), .int .i64 (0 : Int)].toArray 63 (0, 0))
  refine nd_op (op_v (w' := w12.alloc (.cells [.slice aq7 r8.length cq7, .map (some b11), .slice none 0 0, .int .i64 (0 : Int), .int .i64 (0 : Int), .int .i64 (0 : Int)].toArray 63 (0, 0))) (some 15) (.pointer (some ⟨w12.heap.size, 0, none⟩)) hs19 (by kernel_rfl) (by kernel_rfl) fun a23 hs24 => ?_)
  generalize w12.heap.size = b20 at hst22 hs24
  generalize w12.alloc (.cells [.slice aq7 r8.length cq7, .map (some b11), .slice none 0 0, .int .i64 (0 : Int), .int .i64 (0 : Int), .int .i64 (0 : Int)].toArray 63 (0, 0)) = w21 at hst22 ⊢
  refine nd_q (c := 0) 2 [2, 3] hs24 [(2, .pointer (some ⟨b20, 0, none⟩)), (3, .int .i64 (0 : Int))] (by kernel_rfl) fun a25 hs26 => ?_
  refine nd_done ?_
  have hst27 := hst22.nil
  have hst28 := W.St.front [_, _] hst27
  have hst29 := W.St.front [_, _, _] hst28
  have hst30 := W.St.front [_, _, _] hst29
  have hst31 := hst30.join.join.join
  have ho32 : OwnS62 m b20 (((([(b20, .cells [.slice aq7 r8.length cq7, .map (some b11), .slice none 0 0, .int .i64 (0 : Int), .int .i64 (0 : Int), .int .i64 (0 : Int)].toArray 63 (0, 0))] ++ Iq7) ++ I17) ++ [])) (⟨r8, ([] : List (Int × S36)), ([] : List Int), (0 : Int), (0 : Int), (0 : Int)⟩ : S62) := ⟨aq7, cq7, Iq7, b11, I17, none, 0, [], rfl, hoq7, ho16, OwnSl.nil, (inr_of (by kernel_rfl)), (inr_of (by kernel_rfl)), (inr_of (by kernel_rfl))⟩
  generalize ((([(b20, .cells [.slice aq7 r8.length cq7, .map (some b11), .slice none 0 0, .int .i64 (0 : Int), .int .i64 (0 : Int), .int .i64 (0 : Int)].toArray 63 (0, 0))] ++ Iq7) ++ I17) ++ []) = I33 at ho32 hst31
  exact to_ret (v := .tuple #[.pointer (some ⟨b20, 0, none⟩), .int .i64 (0 : Int)]) (by kernel_rfl) hbf Try.func10 hbk hs26 (by kernel_rfl) (hQ hr hm0 hst31 (ho32.nn) (inr_of (by kernel_rfl)))
def f10  (x0 : Int) : M ((Option S62) × Int) := fun Q => if x0 < (1 : Int) then (f10_j1 x0 Q true) else (f10_j1 x0 Q (decide (x0 > (16 : Int))))
theorem f10_ok  {z : Base} {w : World} {m : Mem} {G : List Grp} {x0 : Int} {Q : ((Option S62) × Int) → Prop} (hst : W.St z w m (G)) (h_x0 : InR .i64 x0) (hr : f10  x0 Q) : Calls Try.prog 10 #[.int .i64 x0] w (f10_post z m G  Q) := by
  refine calls_begin (c := f10_c) (n := 16) [.int .i64 x0] Try.func10 (by kernel_rfl) Try.ntmps10 (Nat.le_of_ble_eq_true rfl) fun b cs a0 hbf hbk hs0 => ?_
  have hm0 := Mem.le.refl m
  have hQ : ∀ {r : ((Option S62) × Int)}, Q r → f10_YR z m G (f10_post z m G  Q)  r := by intro r hq m' w' p0_0 I0_0 hm' hst' hf0_0 hf1_0; exact ⟨r, p0_0, I0_0,  W.St.less hm' hst', rfl, (OwnN62.flat hf0_0), hf1_0, hq⟩
  unfold f10 at hr
  refine to_seq (sub [0] f10_c) (sub [1] f10_c) (by kernel_rfl) ?_
  refine to_nd 0 2 (rops (sub [0] f10_c)) (by kernel_rfl) (by kernel_rfl) ?_
  refine nd_q (c := 0) 2 [0] hs0 [(0, .int .i64 x0)] (by kernel_rfl) fun a1 hs2 => ?_
  refine nd_done ?_
  refine to_seq (sub [1, 0] f10_c) (sub [1, 1] f10_c) (by kernel_rfl) ?_
  refine to_seq (sub [1, 0, 0] f10_c) (sub [1, 0, 1] f10_c) (by kernel_rfl) ?_
  refine to_nd 1 6 (rops (sub [1, 0, 0] f10_c)) (by kernel_rfl) (by kernel_rfl) ?_
  refine nd_q (c := 3) 3 [0, 6] hs2 [(0, .int .i64 x0), (6, .bool (decide (x0 < (1 : Int))))] (by kernel_rfl) fun a3 hs4 => ?_
  by_cases hb5 : x0 < (1 : Int)
  · rw [if_pos hb5] at hr
    rw [(decide_eq_true hb5)] at hs4
    refine nd_q (c := 0) 3 [0, 9] hs4 [(0, .int .i64 x0), (9, .bool true)] (by kernel_rfl) fun a6 hs7 => ?_
    refine nd_done ?_
    have hs8 := hs7.kept [0, 9] [(0, .int .i64 x0), (9, .bool true)] (by kernel_rfl)
    exact f10_j1_ok hbf hbk h_x0  hQ hr (Mem.le.refl _) hst hs8 
  rw [if_neg hb5] at hr
  rw [(decide_eq_false hb5)] at hs4
  refine nd_q (c := 0) 3 [0, 9] hs4 [(0, .int .i64 x0), (9, .bool (decide (x0 > (16 : Int))))] (by kernel_rfl) fun a9 hs10 => ?_
  refine nd_done ?_
  have hs11 := hs10.kept [0, 9] [(0, .int .i64 x0), (9, .bool (decide (x0 > (16 : Int))))] (by kernel_rfl)
  exact f10_j1_ok hbf hbk h_x0  hQ hr (Mem.le.refl _) hst hs11 
/-! ### 35: (*salchow/channel.Channel).display -/
noncomputable def f35_c : Code := codeOf Try.f35
def f35_post (z : Base) (m : Mem) (G : List Grp)  (Q : Bool → Prop) : Ending → World → Prop := fun e w' => ∃ (r : Bool) , W.St z w' m (G) ∧ e = .returned (.bool r) ∧ Q r
def f35_YR (z : Base) (m0 : Mem) (G : List Grp) (R : Ending → World → Prop)  (r : Bool) : Prop := ∀ {m : Mem} {w : World} , m0.le m → W.St z w m (G) →  R (.returned (.bool r)) w
theorem f35_YR_mono {z : Base} {m0 m1 : Mem} {G : List Grp} {R : Ending → World → Prop}  {r : Bool} (hm : m0.le m1) (h : f35_YR z m0 G R  r) : f35_YR z m1 G R  r := by
  intro m w  hm'
  exact h (hm.trans hm')
def f35  (x0 : S62) (x1 : Int) : M Bool := fun Q => if x1 ≥ (1 : Int) then (Q (decide (x1 < (x0.f0.length : Int)))) else (Q false)
theorem f35_ok  {z : Base} {w : World} {m : Mem} {G : List Grp} {ad_x0 : Addr} {a_x0_0 : Option Addr} {c_x0_0 : Nat} {r_x0_1 : Option Nat} {a_x0_2 : Option Addr} {c_x0_2 : Nat} {x0 : S62} {x1 : Int} {Q : Bool → Prop} (hst : W.St z w m (G)) (hA_x0 : At m ad_x0 6 (cells [.slice a_x0_0 x0.f0.length c_x0_0, .map r_x0_1, .slice a_x0_2 x0.f2.length c_x0_2, .int .i64 x0.f3, .int .i64 x0.f4, .int .i64 x0.f5])) (h_x0_0 : Sl kBool 1 m a_x0_0 c_x0_0 x0.f0) (h_x0_1 : ImmM (Value.int .i64) k36 m r_x0_1 x0.f1) (h_x0_2 : Sl (kInt .i64) 8 m a_x0_2 c_x0_2 x0.f2) (h_x0_3 : InR .i64 x0.f3) (h_x0_4 : InR .i64 x0.f4) (h_x0_5 : InR .i64 x0.f5) (h_x1 : InR .i64 x1) (hr : f35  x0 x1 Q) : Calls Try.prog 35 #[.pointer (some ad_x0), .int .i64 x1] w (f35_post z m G  Q) := by
  refine calls_begin (c := f35_c) (n := 16) [.pointer (some ad_x0), .int .i64 x1] Try.func35 (by kernel_rfl) Try.ntmps35 (Nat.le_of_ble_eq_true rfl) fun b cs a0 hbf hbk hs0 => ?_
  have hm0 := Mem.le.refl m
  have hQ : ∀ {r : Bool}, Q r → f35_YR z m G (f35_post z m G  Q)  r := by intro r hq m' w'  hm' hst' ; exact ⟨r,  W.St.less hm' hst', rfl, hq⟩
  unfold f35 at hr
  refine to_seq (sub [0] f35_c) (sub [1] f35_c) (by kernel_rfl) ?_
  refine to_nd 0 1 (rops (sub [0] f35_c)) (by kernel_rfl) (by kernel_rfl) ?_
  refine nd_q (c := 0) 1 [0, 1] hs0 [(0, .pointer (some ad_x0)), (1, .int .i64 x1)] (by kernel_rfl) fun a1 hs2 => ?_
  refine nd_done ?_
  refine to_seq (sub [1, 0] f35_c) (sub [1, 1] f35_c) (by kernel_rfl) ?_
  refine to_nd 1 12 (rops (sub [1, 0] f35_c)) (by kernel_rfl) (by kernel_rfl) ?_
  refine nd_q (c := 9) 3 [0, 1, 7] hs2 [(0, .pointer (some ad_x0)), (1, .int .i64 x1), (7, .bool (decide (x1 ≥ (1 : Int))))] (by kernel_rfl) fun a3 hs4 => ?_
  by_cases hb5 : x1 ≥ (1 : Int)
  rotate_left
  · rw [if_neg hb5] at hr
    rw [(decide_eq_false hb5)] at hs4
    refine nd_q (c := 0) 9 [4] hs4 [(4, .bool false)] (by kernel_rfl) fun a12 hs13 => ?_
    refine nd_done ?_
    exact to_ret (v := .bool false) (by kernel_rfl) hbf Try.func35 hbk hs13 (by kernel_rfl) (hQ hr (Mem.le.refl _) hst )
  rw [if_pos hb5] at hr
  rw [(decide_eq_true hb5)] at hs4
  refine nd_q (c := 5) 4 [7, 8, 11] hs4 [(7, .bool true), (8, .int .i64 x1), (11, .pointer (some ad_x0))] (by kernel_rfl) fun a6 hs7 => ?_
  refine nd_v (i := 7) (c := 4) 12 (.slice a_x0_0 x0.f0.length c_x0_0) hs7 (by kernel_rfl) (ld1_run (P := Try.prog) (ad := ad_x0) (by kernel_rfl) (hA_x0.cell0 hst (Nat.le_of_ble_eq_true rfl))) fun a8 hs9 => ?_
  refine nd_q (c := 0) 4 [4] hs9 [(4, .bool (decide (x1 < (x0.f0.length : Int))))] (by kernel_rfl) fun a10 hs11 => ?_
  refine nd_done ?_
  exact to_ret (v := .bool (decide (x1 < (x0.f0.length : Int)))) (by kernel_rfl) hbf Try.func35 hbk hs11 (by kernel_rfl) (hQ hr (Mem.le.refl _) hst )
/-! ### 21: (*salchow/channel.Channel).Send -/
noncomputable def f21_c : Code := codeOf Try.f21
def f21_post (z : Base) (m : Mem) (G : List Grp) (b_x0 : Nat) (Q : (Int × Int × S62) → Prop) : Ending → World → Prop := fun e w' => ∃ (r : (Int × Int × S62)) (I_i0 : Grp), W.St z w' m (I_i0 :: G) ∧ e = .returned (.tuple #[.int .i64 r.1, .int .i64 r.2.1]) ∧ InR .i64 r.1 ∧ InR .i64 r.2.1 ∧ OwnS62 m b_x0 I_i0 r.2.2 ∧ Q r
def f21_YR (z : Base) (m0 : Mem) (G : List Grp) (R : Ending → World → Prop) (b_x0 : Nat) (r : (Int × Int × S62)) : Prop := ∀ {m : Mem} {w : World} {I_i0 : Grp}, m0.le m → W.St z w m (I_i0 :: G) → (InR .i64 r.1) → (InR .i64 r.2.1) → (OwnS62 m b_x0 I_i0 r.2.2) →  R (.returned (.tuple #[.int .i64 r.1, .int .i64 r.2.1])) w
theorem f21_YR_mono {z : Base} {m0 m1 : Mem} {G : List Grp} {R : Ending → World → Prop} {b_x0 : Nat} {r : (Int × Int × S62)} (hm : m0.le m1) (h : f21_YR z m0 G R b_x0 r) : f21_YR z m1 G R b_x0 r := by
  intro m w I_i0 hm'
  exact h (hm.trans hm')
def f21_j1_Y (z : Base) (m0 : Mem) (G : List Grp) (b : Frame) (cs : List Frame) (R : Ending → World → Prop) (b_x0 : Nat) (I_x0 : Grp) (x0 : S62) (x1 : Int) (x2 : Int) (x3 : ByteArray) (t'27 : Bool) : Prop := ∀ {m : Mem} {w : World} {a : Act} , m0.le m → W.St z w m (I_x0 :: G) → Has 65 a [(0, .pointer (some ⟨b_x0, 0, none⟩)), (1, .int .i64 x1), (2, .int .i64 x2), (3, .string x3), (27, .bool t'27)] →  Reach Try.prog b cs R [.code (sub [1, 0, 1] f21_c), .code (sub [1, 1] f21_c)] a w
def f21_j1 (x0 : S62) (x1 : Int) (x2 : Int) (x3 : ByteArray) (Q : (Int × Int × S62) → Prop) (t'27 : Bool) : Prop := if t'27 = true then (Q ((0 : Int), (1 : Int), x0)) else (if (x0.f2.length : Int) = (4096 : Int) then (Q ((0 : Int), (14 : Int), x0)) else (ofO (mput x0.f1 x0.f3 (⟨x1, x2, x3⟩ : S36)) fun r44 => ofO (app 8 x0.f2 ([x0.f3])) fun r61 => Q (x0.f3, (0 : Int), (⟨x0.f0, r44, r61, (w64 (x0.f3 + (1 : Int))), x0.f4, x0.f5⟩ : S62))))
theorem f21_j1_ok {z : Base} {m0 : Mem} {G : List Grp} {b : Frame} {cs : List Frame} {R : Ending → World → Prop} {b_x0 : Nat} {I_x0 : Grp} {x0 : S62} {x1 : Int} {x2 : Int} {x3 : ByteArray} {Q : (Int × Int × S62) → Prop} (hbf : b.fn = 21) (hbk : b.kind = .normal) (h_x0 : OwnS62 m0 b_x0 I_x0 x0) (h_x1 : InR .i64 x1) (h_x2 : InR .i64 x2) (h_x3 : x3.size ≤ reach)  (hQ : ∀ {r : (Int × Int × S62)}, Q r → f21_YR z m0 G R b_x0 r) : ∀ {t'27 : Bool}, f21_j1 x0 x1 x2 x3 Q t'27 → f21_j1_Y z m0 G b cs R b_x0 I_x0 x0 x1 x2 x3 t'27 := by
  intro t'27 hr m w a0  hm0 hst hs0 
  unfold f21_j1 at hr
  by_cases hb1 : t'27 = true
  · rw [if_pos hb1] at hr
    rw [(bT hb1)] at hs0
    refine to_then (.tmp 27) (sub [1, 0, 1, 0] f21_c) (sub [1, 0, 1, 1] f21_c) (by kernel_rfl) hs0 (by kernel_rfl) ?_
    refine to_seq (sub [1, 0, 1, 0, 0] f21_c) (sub [1, 0, 1, 0, 1] f21_c) (by kernel_rfl) ?_
    refine to_nd 2 2 (rops (sub [1, 0, 1, 0, 0] f21_c)) (by kernel_rfl) (by kernel_rfl) ?_
    refine nd_q (c := 0) 2 [8, 9] hs0 [(8, .int .i64 (0 : Int)), (9, .int .i64 (1 : Int))] (by kernel_rfl) fun a2 hs3 => ?_
    refine nd_done ?_
    exact to_ret (v := .tuple #[.int .i64 (0 : Int), .int .i64 (1 : Int)]) (by kernel_rfl) hbf Try.func21 hbk hs3 (by kernel_rfl) (hQ hr hm0 hst (inr_of (by kernel_rfl)) (inr_of (by kernel_rfl)) (h_x0.mono hm0))
  rw [if_neg hb1] at hr
  rw [(bF hb1)] at hs0
  refine to_else (.tmp 27) (sub [1, 0, 1, 0] f21_c) (sub [1, 0, 1, 1] f21_c) (by kernel_rfl) hs0 (by kernel_rfl) ?_
  refine to_skip (by kernel_rfl) ?_
  refine to_seq (sub [1, 1, 0] f21_c) (sub [1, 1, 1] f21_c) (by kernel_rfl) ?_
  refine to_seq (sub [1, 1, 0, 0] f21_c) (sub [1, 1, 0, 1] f21_c) (by kernel_rfl) ?_
  refine to_nd 3 6 (rops (sub [1, 1, 0, 0] f21_c)) (by kernel_rfl) (by kernel_rfl) ?_
  refine nd_q (c := 3) 3 [0, 1, 2, 3, 30] hs0 [(0, .pointer (some ⟨b_x0, 0, none⟩)), (1, .int .i64 x1), (2, .int .i64 x2), (3, .string x3), (30, .pointer (some ⟨b_x0, 2, none⟩))] (by kernel_rfl) fun a4 hs5 => ?_
  obtain ⟨aq6_0, cq6_0, Iq6_0, rq6_1, Iq6_1, aq6_2, cq6_2, Iq6_2, hI7, hfq6_0, hfq6_1, hfq6_2, hfq6_3, hfq6_4, hfq6_5⟩ := id (h_x0.mono hm0)
  have hst8 := hst
  rw [hI7] at hst8
  have hst9 := hst8.split.split.split
  refine nd_v (i := 3) (c := 2) 31 (.slice aq6_2 x0.f2.length cq6_2) hs5 (by kernel_rfl) (ld1_run (P := Try.prog) (ad := ⟨b_x0, 2, none⟩) (by kernel_rfl) (W.St.ocell [] hst9 2 (Nat.le_of_ble_eq_true rfl))) fun a10 hs11 => ?_
  refine nd_q (c := 0) 2 [0, 1, 2, 3, 33] hs11 [(0, .pointer (some ⟨b_x0, 0, none⟩)), (1, .int .i64 x1), (2, .int .i64 x2), (3, .string x3), (33, .bool ((x0.f2.length : Int) == (4096 : Int)))] (by kernel_rfl) fun a12 hs13 => ?_
  refine nd_done ?_
  by_cases hb14 : (x0.f2.length : Int) = (4096 : Int)
  · rw [if_pos hb14] at hr
    rw [(eqT hb14)] at hs13
    refine to_then (.tmp 33) (sub [1, 1, 0, 1, 0] f21_c) (sub [1, 1, 0, 1, 1] f21_c) (by kernel_rfl) hs13 (by kernel_rfl) ?_
    refine to_seq (sub [1, 1, 0, 1, 0, 0] f21_c) (sub [1, 1, 0, 1, 0, 1] f21_c) (by kernel_rfl) ?_
    refine to_nd 4 2 (rops (sub [1, 1, 0, 1, 0, 0] f21_c)) (by kernel_rfl) (by kernel_rfl) ?_
    refine nd_q (c := 0) 2 [8, 9] hs13 [(8, .int .i64 (0 : Int)), (9, .int .i64 (14 : Int))] (by kernel_rfl) fun a15 hs16 => ?_
    refine nd_done ?_
    have hst17 := W.St.front [_, _, _] hst9
    have hst18 := W.St.front [_, _, _] hst17
    have hst19 := W.St.front [_, _, _] hst18
    have hst20 := W.St.front [_, _, _] hst19
    have hst21 := hst20.join.join.join
    rw [← hI7] at hst21
    exact to_ret (v := .tuple #[.int .i64 (0 : Int), .int .i64 (14 : Int)]) (by kernel_rfl) hbf Try.func21 hbk hs16 (by kernel_rfl) (hQ hr hm0 hst21 (inr_of (by kernel_rfl)) (inr_of (by kernel_rfl)) (h_x0.mono hm0))
  rw [if_neg hb14] at hr
  rw [(eqF hb14)] at hs13
  refine to_else (.tmp 33) (sub [1, 1, 0, 1, 0] f21_c) (sub [1, 1, 0, 1, 1] f21_c) (by kernel_rfl) hs13 (by kernel_rfl) ?_
  refine to_skip (by kernel_rfl) ?_
  refine to_seq (sub [1, 1, 1, 0] f21_c) (sub [1, 1, 1, 1] f21_c) (by kernel_rfl) ?_
  refine to_nd 5 5 (rops (sub [1, 1, 1, 0] f21_c)) (by kernel_rfl) (by kernel_rfl) ?_
  refine nd_q (c := 2) 3 [0, 1, 2, 3, 36] hs13 [(0, .pointer (some ⟨b_x0, 0, none⟩)), (1, .int .i64 x1), (2, .int .i64 x2), (3, .string x3), (36, .pointer (some ⟨b_x0, 3, none⟩))] (by kernel_rfl) fun a22 hs23 => ?_
  refine nd_v (i := 3) (c := 1) 37 (.int .i64 x0.f3) hs23 (by kernel_rfl) (ld1_run (P := Try.prog) (ad := ⟨b_x0, 3, none⟩) (by kernel_rfl) (W.St.ocell [] hst9 3 (Nat.le_of_ble_eq_true rfl))) fun a24 hs25 => ?_
  refine nd_q (c := 0) 1 [0, 1, 2, 3, 10] hs25 [(0, .pointer (some ⟨b_x0, 0, none⟩)), (1, .int .i64 x1), (2, .int .i64 x2), (3, .string x3), (10, .int .i64 x0.f3)] (by kernel_rfl) fun a26 hs27 => ?_
  refine nd_done ?_
  refine to_seq (sub [1, 1, 1, 1, 0] f21_c) (sub [1, 1, 1, 1, 1] f21_c) (by kernel_rfl) ?_
  refine to_nd 6 8 (rops (sub [1, 1, 1, 1, 0] f21_c)) (by kernel_rfl) (by kernel_rfl) ?_
  refine nd_q (c := 5) 3 [0, 1, 2, 3, 10, 38, 40] hs27 [(0, .pointer (some ⟨b_x0, 0, none⟩)), (1, .int .i64 x1), (2, .int .i64 x2), (3, .string x3), (10, .int .i64 x0.f3), (38, .pointer (some ⟨b_x0, 0, none⟩)), (40, .pointer (some ⟨b_x0, 3, none⟩))] (by kernel_rfl) fun a28 hs29 => ?_
  refine nd_v (i := 3) (c := 4) 41 (.int .i64 x0.f3) hs29 (by kernel_rfl) (ld1_run (P := Try.prog) (ad := ⟨b_x0, 3, none⟩) (by kernel_rfl) (W.St.ocell [] hst9 3 (Nat.le_of_ble_eq_true rfl))) fun a30 hs31 => ?_
  refine nd_q (c := 1) 3 [0, 1, 2, 3, 10, 42, 44] hs31 [(0, .pointer (some ⟨b_x0, 0, none⟩)), (1, .int .i64 x1), (2, .int .i64 x2), (3, .string x3), (10, .int .i64 x0.f3), (42, .int .i64 (w64 (x0.f3 + (1 : Int)))), (44, .pointer (some ⟨b_x0, 3, none⟩))] (by kernel_rfl) fun a32 hs33 => ?_
  obtain ⟨wq34, hxq34, hstq34⟩ := stq_run (P := Try.prog) (o := opAt (rops (sub [1, 1, 1, 1, 0] f21_c)) 7) (ρ := Env.rho hs33.env) (off := 3) (vs := [.int .i64 (w64 (x0.f3 + (1 : Int)))]) (by kernel_rfl) (by kernel_rfl) (Nat.le_of_ble_eq_true rfl) hst9 [.slice aq6_0 x0.f0.length cq6_0, .map (some rq6_1), .slice aq6_2 x0.f2.length cq6_2, .int .i64 (w64 (x0.f3 + (1 : Int))), .int .i64 x0.f4, .int .i64 x0.f5] rfl
  refine nd_op (op_s none hs33 (by kernel_rfl) hxq34 fun a35 hs36 => ?_)
  refine nd_done ?_
  refine to_seq (sub [1, 1, 1, 1, 1, 0] f21_c) (sub [1, 1, 1, 1, 1, 1] f21_c) (by kernel_rfl) ?_
  refine to_nd 7 10 (rops (sub [1, 1, 1, 1, 1, 0] f21_c)) (by kernel_rfl) (by kernel_rfl) ?_
  refine nd_q (c := 7) 3 [0, 1, 2, 3, 10, 47] hs36 [(0, .pointer (some ⟨b_x0, 0, none⟩)), (1, .int .i64 x1), (2, .int .i64 x2), (3, .string x3), (10, .int .i64 x0.f3), (47, .pointer (some ⟨b_x0, 1, none⟩))] (by kernel_rfl) fun a37 hs38 => ?_
  refine nd_v (i := 3) (c := 6) 48 (.map (some rq6_1)) hs38 (by kernel_rfl) (ld1_run (P := Try.prog) (ad := ⟨b_x0, 1, none⟩) (by kernel_rfl) (W.St.ocell [] hstq34 1 (Nat.le_of_ble_eq_true rfl))) fun a39 hs40 => ?_
  refine nd_q (c := 1) 5 [0, 10, 48, 49, 53] hs40 [(0, .pointer (some ⟨b_x0, 0, none⟩)), (10, .int .i64 x0.f3), (48, .map (some rq6_1)), (49, .int .i64 x0.f3), (53, .agg #[.int .i64 x1, .int .i64 x2, .string x3])] (by kernel_rfl) fun a41 hs42 => ?_
  obtain ⟨r44, hcq43, hr⟩ := ofO_el hr
  have hst45 := W.St.front [_, _] hstq34
  obtain ⟨Iq43, wq43, hxq43, hstq43, hoq43⟩ := own_update (P := Try.prog) (o := opAt (rops (sub [1, 1, 1, 1, 1, 0] f21_c)) 9) (ρ := Env.rho hs42.env) (keyInt (T := 3) (by kernel_rfl)) (by kernel_rfl) (Vl.ofA (k36_mk h_x1 h_x2 h_x3) rfl rfl) hfq6_1 hst45 hcq43
  refine nd_op (op_s none hs42 (by kernel_rfl) hxq43 fun a46 hs47 => ?_)
  refine nd_done ?_
  refine to_seq (sub [1, 1, 1, 1, 1, 1, 0] f21_c) (sub [1, 1, 1, 1, 1, 1, 1] f21_c) (by kernel_rfl) ?_
  refine to_nd 8 11 (rops (sub [1, 1, 1, 1, 1, 1, 0] f21_c)) (by kernel_rfl) (by kernel_rfl) ?_
  refine nd_q (c := 7) 4 [10, 54, 57] hs47 [(10, .int .i64 x0.f3), (54, .pointer (some ⟨b_x0, 0, none⟩)), (57, .pointer (some ⟨b_x0, 2, none⟩))] (by kernel_rfl) fun a48 hs49 => ?_
  refine nd_v (i := 4) (c := 6) 58 (.slice aq6_2 x0.f2.length cq6_2) hs49 (by kernel_rfl) (ld1_run (P := Try.prog) (ad := ⟨b_x0, 2, none⟩) (by kernel_rfl) (W.St.ocell [_] hstq43 2 (Nat.le_of_ble_eq_true rfl))) fun a50 hs51 => ?_
  refine nd_q (c := 5) 1 [10, 54, 58, 59] hs51 [(10, .int .i64 x0.f3), (54, .pointer (some ⟨b_x0, 0, none⟩)), (58, .slice aq6_2 x0.f2.length cq6_2), (59, .int .i64 x0.f3)] (by kernel_rfl) fun a52 hs53 => ?_
  have ho60 : OwnSl (kInt .i64) 8 3 m (some ⟨wq43.heap.size, 0, none⟩) 1 [(wq43.heap.size, .cells ([.int .i64 x0.f3]).toArray 3 (0, 0))] [x0.f3] := own_row (n := 1) (RepL.cons (l := [.int .i64 x0.f3]) rfl (kInt_mk hfq6_3) RepL.nil) rfl (Nat.le_of_ble_eq_true rfl) (Nat.le_of_ble_eq_true rfl)
  have hst56 := hstq43.alloc (.cells [.int .i64 x0.f3].toArray 3 (0, 0))
  refine nd_op (op_v (w' := wq43.alloc (.cells [.int .i64 x0.f3].toArray 3 (0, 0))) (some 60) (.slice (some ⟨wq43.heap.size, 0, none⟩) 1 1) hs53 (by kernel_rfl) (by kernel_rfl) fun a57 hs58 => ?_)
  generalize wq43.heap.size = b54 at hst56 hs58 ho60
  generalize wq43.alloc (.cells [.int .i64 x0.f3].toArray 3 (0, 0)) = w55 at hst56 ⊢
  obtain ⟨r61, hcq62, hr⟩ := ofO_el hr
  have hst63 := W.St.front [_, _, _, _] hst56
  obtain ⟨aq62, cq62, Iq62, wq62, hxq62, hstq62, hoq62⟩ := own_append (P := Try.prog) (o := opAt (rops (sub [1, 1, 1, 1, 1, 1, 0] f21_c)) 7) (ρ := Env.rho hs58.env) (c := 1) (news := [.int .i64 x0.f3]) (by kernel_rfl) hst63 hfq6_2 (RepL.cons (l := [.int .i64 x0.f3]) rfl (kInt_mk hfq6_3) RepL.nil) (row_cells [_] hst63) (by kernel_rfl) (Nat.le_of_ble_eq_true rfl) hcq62
  refine nd_op (op_v (some 61) (.slice aq62 r61.length cq62) hs58 (by kernel_rfl) hxq62 fun a64 hs65 => ?_)
  refine nd_q (c := 1) 2 [10, 61, 63] hs65 [(10, .int .i64 x0.f3), (61, .slice aq62 r61.length cq62), (63, .pointer (some ⟨b_x0, 2, none⟩))] (by kernel_rfl) fun a66 hs67 => ?_
  have hst68 := W.St.front [_, _, _] hstq62
  obtain ⟨wq69, hxq69, hstq69⟩ := stq_run (P := Try.prog) (o := opAt (rops (sub [1, 1, 1, 1, 1, 1, 0] f21_c)) 10) (ρ := Env.rho hs67.env) (off := 2) (vs := [.slice aq62 r61.length cq62]) (by kernel_rfl) (by kernel_rfl) (Nat.le_of_ble_eq_true rfl) hst68 [.slice aq6_0 x0.f0.length cq6_0, .map (some rq6_1), .slice aq62 r61.length cq62, .int .i64 (w64 (x0.f3 + (1 : Int))), .int .i64 x0.f4, .int .i64 x0.f5] rfl
  refine nd_op (op_s none hs67 (by kernel_rfl) hxq69 fun a70 hs71 => ?_)
  refine nd_done ?_
  refine to_seq (sub [1, 1, 1, 1, 1, 1, 1, 0] f21_c) (sub [1, 1, 1, 1, 1, 1, 1, 1] f21_c) (by kernel_rfl) ?_
  refine to_nd 9 3 (rops (sub [1, 1, 1, 1, 1, 1, 1, 0] f21_c)) (by kernel_rfl) (by kernel_rfl) ?_
  refine nd_q (c := 0) 3 [8, 9] hs71 [(8, .int .i64 x0.f3), (9, .int .i64 (0 : Int))] (by kernel_rfl) fun a72 hs73 => ?_
  refine nd_done ?_
  have hst74 := W.St.front [_] hstq69
  have hst75 := W.St.front [_, _, _] hst74
  have hst76 := W.St.front [_, _, _, _] hst75
  have hst77 := W.St.front [_, _, _] hst76
  have hst78 := hst77.join.join.join
  have ho79 : OwnS62 m b_x0 (((([(b_x0, .cells [.slice aq6_0 x0.f0.length cq6_0, .map (some rq6_1), .slice aq62 r61.length cq62, .int .i64 (w64 (x0.f3 + (1 : Int))), .int .i64 x0.f4, .int .i64 x0.f5].toArray 63 (0, 0))] ++ Iq6_0) ++ Iq43) ++ Iq62)) (⟨x0.f0, r44, r61, (w64 (x0.f3 + (1 : Int))), x0.f4, x0.f5⟩ : S62) := ⟨aq6_0, cq6_0, Iq6_0, rq6_1, Iq43, aq62, cq62, Iq62, rfl, hfq6_0, hoq43, hoq62, (wrap_in .i64 _), hfq6_4, hfq6_5⟩
  generalize ((([(b_x0, .cells [.slice aq6_0 x0.f0.length cq6_0, .map (some rq6_1), .slice aq62 r61.length cq62, .int .i64 (w64 (x0.f3 + (1 : Int))), .int .i64 x0.f4, .int .i64 x0.f5].toArray 63 (0, 0))] ++ Iq6_0) ++ Iq43) ++ Iq62) = I80 at ho79 hst78
  have hst81 := W.St.drop [_] hst78
  exact to_ret (v := .tuple #[.int .i64 x0.f3, .int .i64 (0 : Int)]) (by kernel_rfl) hbf Try.func21 hbk hs73 (by kernel_rfl) (hQ hr hm0 hst81 hfq6_3 (inr_of (by kernel_rfl)) ho79)
def f21  (x0 : S62) (x1 : Int) (x2 : Int) (x3 : ByteArray) : M (Int × Int × S62) := fun Q => if x1 = (0 : Int) then (f35 x0 x2 fun r14 => if r14 = true then (f21_j1 x0 x1 x2 x3 Q false) else (if x2 = (0 : Int) then (f35 x0 x1 fun r39 => f21_j1 x0 x1 x2 x3 Q (!r39)) else (f21_j1 x0 x1 x2 x3 Q true))) else (if x2 = (0 : Int) then (f35 x0 x1 fun r64 => f21_j1 x0 x1 x2 x3 Q (!r64)) else (f21_j1 x0 x1 x2 x3 Q true))
theorem f21_ok  {z : Base} {w : World} {m : Mem} {G : List Grp} {b_x0 : Nat} {I_x0 : Grp} {x0 : S62} {x1 : Int} {x2 : Int} {x3 : ByteArray} {Q : (Int × Int × S62) → Prop} (hst : W.St z w m (I_x0 :: G)) (h_x0 : OwnS62 m b_x0 I_x0 x0) (h_x1 : InR .i64 x1) (h_x2 : InR .i64 x2) (h_x3 : x3.size ≤ reach) (hr : f21  x0 x1 x2 x3 Q) : Calls Try.prog 21 #[.pointer (some ⟨b_x0, 0, none⟩), .int .i64 x1, .int .i64 x2, .string x3] w (f21_post z m G b_x0 Q) := by
  refine calls_begin (c := f21_c) (n := 65) [.pointer (some ⟨b_x0, 0, none⟩), .int .i64 x1, .int .i64 x2, .string x3] Try.func21 (by kernel_rfl) Try.ntmps21 (Nat.le_of_ble_eq_true rfl) fun b cs a0 hbf hbk hs0 => ?_
  have hm0 := Mem.le.refl m
  have hQ : ∀ {r : (Int × Int × S62)}, Q r → f21_YR z m G (f21_post z m G b_x0 Q) b_x0 r := by intro r hq m' w' I_i0 hm' hst' hf0_0 hf1_0 hf_i0; exact ⟨r, I_i0,  W.St.less hm' hst', rfl, hf0_0, hf1_0, (OwnS62.flat hf_i0), hq⟩
  unfold f21 at hr
  refine to_seq (sub [0] f21_c) (sub [1] f21_c) (by kernel_rfl) ?_
  refine to_nd 0 2 (rops (sub [0] f21_c)) (by kernel_rfl) (by kernel_rfl) ?_
  refine nd_q (c := 0) 2 [0, 1, 2, 3] hs0 [(0, .pointer (some ⟨b_x0, 0, none⟩)), (1, .int .i64 x1), (2, .int .i64 x2), (3, .string x3)] (by kernel_rfl) fun a1 hs2 => ?_
  refine nd_done ?_
  refine to_seq (sub [1, 0] f21_c) (sub [1, 1] f21_c) (by kernel_rfl) ?_
  refine to_seq (sub [1, 0, 0] f21_c) (sub [1, 0, 1] f21_c) (by kernel_rfl) ?_
  refine to_nd 1 17 (rops (sub [1, 0, 0] f21_c)) (by kernel_rfl) (by kernel_rfl) ?_
  refine nd_q (c := 14) 3 [0, 1, 2, 3, 13] hs2 [(0, .pointer (some ⟨b_x0, 0, none⟩)), (1, .int .i64 x1), (2, .int .i64 x2), (3, .string x3), (13, .bool (x1 == (0 : Int)))] (by kernel_rfl) fun a3 hs4 => ?_
  by_cases hb5 : x1 = (0 : Int)
  rotate_left
  · rw [if_neg hb5] at hr
    rw [(eqF hb5)] at hs4
    refine nd_q (c := 6) 8 [0, 1, 2, 3, 18, 21] hs4 [(0, .pointer (some ⟨b_x0, 0, none⟩)), (1, .int .i64 x1), (2, .int .i64 x2), (3, .string x3), (18, .bool false), (21, .bool (x2 == (0 : Int)))] (by kernel_rfl) fun a53 hs54 => ?_
    by_cases hb55 : x2 = (0 : Int)
    rotate_left
    · rw [if_neg hb55] at hr
      rw [(eqF hb55)] at hs54
      refine nd_q (c := 0) 6 [0, 1, 2, 3, 27] hs54 [(0, .pointer (some ⟨b_x0, 0, none⟩)), (1, .int .i64 x1), (2, .int .i64 x2), (3, .string x3), (27, .bool true)] (by kernel_rfl) fun a75 hs76 => ?_
      refine nd_done ?_
      have hs77 := hs76.kept [0, 1, 2, 3, 27] [(0, .pointer (some ⟨b_x0, 0, none⟩)), (1, .int .i64 x1), (2, .int .i64 x2), (3, .string x3), (27, .bool true)] (by kernel_rfl)
      exact f21_j1_ok hbf hbk h_x0 h_x1 h_x2 h_x3  hQ hr (Mem.le.refl _) hst hs77 
    rw [if_pos hb55] at hr
    rw [(eqT hb55)] at hs54
    refine nd_q (c := 4) 2 [0, 1, 2, 3, 18, 21, 22, 23] hs54 [(0, .pointer (some ⟨b_x0, 0, none⟩)), (1, .int .i64 x1), (2, .int .i64 x2), (3, .string x3), (18, .bool false), (21, .bool true), (22, .pointer (some ⟨b_x0, 0, none⟩)), (23, .int .i64 x1)] (by kernel_rfl) fun a56 hs57 => ?_
    have hz59 := h_x0.lend hst
    have hst60 := W.St.freeze hst
    have hm61 := Mem.le_add m I_x0
    generalize hq62 : Mem.add m I_x0 = m58 at hz59 hst60 hm61
    obtain ⟨aq63_0, cq63_0, rq63_1, aq63_2, cq63_2, hAq63, hfq63_0, hfq63_1, hfq63_2, hfq63_3, hfq63_4, hfq63_5⟩ := hz59
    refine nd_op (op_call (some 24) hs57 (by kernel_rfl) (by kernel_rfl) ((f35_ok hst60 hAq63 hfq63_0 hfq63_1 hfq63_2 hfq63_3 hfq63_4 hfq63_5 h_x1 hr).mono ?_))
    rintro _ w65 ⟨r64, hst68, rfl, hr⟩
    revert hr; intro hr
    refine ⟨_, rfl, fun a66 hs67 => ?_⟩
    have hst71 := W.St.thaw2 hst (by rw [hq62]; exact Mem.le.refl _) hst68
    refine nd_q (c := 0) 3 [0, 1, 2, 3, 27] hs67 [(0, .pointer (some ⟨b_x0, 0, none⟩)), (1, .int .i64 x1), (2, .int .i64 x2), (3, .string x3), (27, .bool (!r64))] (by kernel_rfl) fun a72 hs73 => ?_
    refine nd_done ?_
    have hs74 := hs73.kept [0, 1, 2, 3, 27] [(0, .pointer (some ⟨b_x0, 0, none⟩)), (1, .int .i64 x1), (2, .int .i64 x2), (3, .string x3), (27, .bool (!r64))] (by kernel_rfl)
    exact f21_j1_ok hbf hbk h_x0 h_x1 h_x2 h_x3  hQ hr (Mem.le.refl _) hst71 hs74 
  rw [if_pos hb5] at hr
  rw [(eqT hb5)] at hs4
  refine nd_q (c := 12) 2 [0, 1, 2, 3, 13, 14, 15] hs4 [(0, .pointer (some ⟨b_x0, 0, none⟩)), (1, .int .i64 x1), (2, .int .i64 x2), (3, .string x3), (13, .bool true), (14, .pointer (some ⟨b_x0, 0, none⟩)), (15, .int .i64 x2)] (by kernel_rfl) fun a6 hs7 => ?_
  have hz9 := h_x0.lend hst
  have hst10 := W.St.freeze hst
  have hm11 := Mem.le_add m I_x0
  generalize hq12 : Mem.add m I_x0 = m8 at hz9 hst10 hm11
  obtain ⟨aq13_0, cq13_0, rq13_1, aq13_2, cq13_2, hAq13, hfq13_0, hfq13_1, hfq13_2, hfq13_3, hfq13_4, hfq13_5⟩ := hz9
  refine nd_op (op_call (some 16) hs7 (by kernel_rfl) (by kernel_rfl) ((f35_ok hst10 hAq13 hfq13_0 hfq13_1 hfq13_2 hfq13_3 hfq13_4 hfq13_5 h_x2 hr).mono ?_))
  rintro _ w15 ⟨r14, hst18, rfl, hr⟩
  revert hr; intro hr
  refine ⟨_, rfl, fun a16 hs17 => ?_⟩
  have hst21 := W.St.thaw2 hst (by rw [hq12]; exact Mem.le.refl _) hst18
  refine nd_q (c := 9) 2 [0, 1, 2, 3, 18] hs17 [(0, .pointer (some ⟨b_x0, 0, none⟩)), (1, .int .i64 x1), (2, .int .i64 x2), (3, .string x3), (18, .bool r14)] (by kernel_rfl) fun a22 hs23 => ?_
  by_cases hb24 : r14 = true
  · rw [if_pos hb24] at hr
    rw [(bT hb24)] at hs23
    refine nd_q (c := 0) 9 [0, 1, 2, 3, 27] hs23 [(0, .pointer (some ⟨b_x0, 0, none⟩)), (1, .int .i64 x1), (2, .int .i64 x2), (3, .string x3), (27, .bool false)] (by kernel_rfl) fun a25 hs26 => ?_
    refine nd_done ?_
    have hs27 := hs26.kept [0, 1, 2, 3, 27] [(0, .pointer (some ⟨b_x0, 0, none⟩)), (1, .int .i64 x1), (2, .int .i64 x2), (3, .string x3), (27, .bool false)] (by kernel_rfl)
    exact f21_j1_ok hbf hbk h_x0 h_x1 h_x2 h_x3  hQ hr (Mem.le.refl _) hst21 hs27 
  rw [if_neg hb24] at hr
  rw [(bF hb24)] at hs23
  refine nd_q (c := 6) 3 [0, 1, 2, 3, 18, 21] hs23 [(0, .pointer (some ⟨b_x0, 0, none⟩)), (1, .int .i64 x1), (2, .int .i64 x2), (3, .string x3), (18, .bool false), (21, .bool (x2 == (0 : Int)))] (by kernel_rfl) fun a28 hs29 => ?_
  by_cases hb30 : x2 = (0 : Int)
  rotate_left
  · rw [if_neg hb30] at hr
    rw [(eqF hb30)] at hs29
    refine nd_q (c := 0) 6 [0, 1, 2, 3, 27] hs29 [(0, .pointer (some ⟨b_x0, 0, none⟩)), (1, .int .i64 x1), (2, .int .i64 x2), (3, .string x3), (27, .bool true)] (by kernel_rfl) fun a50 hs51 => ?_
    refine nd_done ?_
    have hs52 := hs51.kept [0, 1, 2, 3, 27] [(0, .pointer (some ⟨b_x0, 0, none⟩)), (1, .int .i64 x1), (2, .int .i64 x2), (3, .string x3), (27, .bool true)] (by kernel_rfl)
    exact f21_j1_ok hbf hbk h_x0 h_x1 h_x2 h_x3  hQ hr (Mem.le.refl _) hst21 hs52 
  rw [if_pos hb30] at hr
  rw [(eqT hb30)] at hs29
  refine nd_q (c := 4) 2 [0, 1, 2, 3, 18, 21, 22, 23] hs29 [(0, .pointer (some ⟨b_x0, 0, none⟩)), (1, .int .i64 x1), (2, .int .i64 x2), (3, .string x3), (18, .bool false), (21, .bool true), (22, .pointer (some ⟨b_x0, 0, none⟩)), (23, .int .i64 x1)] (by kernel_rfl) fun a31 hs32 => ?_
  have hz34 := h_x0.lend hst21
  have hst35 := W.St.freeze hst21
  have hm36 := Mem.le_add m I_x0
  generalize hq37 : Mem.add m I_x0 = m33 at hz34 hst35 hm36
  obtain ⟨aq38_0, cq38_0, rq38_1, aq38_2, cq38_2, hAq38, hfq38_0, hfq38_1, hfq38_2, hfq38_3, hfq38_4, hfq38_5⟩ := hz34
  refine nd_op (op_call (some 24) hs32 (by kernel_rfl) (by kernel_rfl) ((f35_ok hst35 hAq38 hfq38_0 hfq38_1 hfq38_2 hfq38_3 hfq38_4 hfq38_5 h_x1 hr).mono ?_))
  rintro _ w40 ⟨r39, hst43, rfl, hr⟩
  revert hr; intro hr
  refine ⟨_, rfl, fun a41 hs42 => ?_⟩
  have hst46 := W.St.thaw2 hst21 (by rw [hq37]; exact Mem.le.refl _) hst43
  refine nd_q (c := 0) 3 [0, 1, 2, 3, 27] hs42 [(0, .pointer (some ⟨b_x0, 0, none⟩)), (1, .int .i64 x1), (2, .int .i64 x2), (3, .string x3), (27, .bool (!r39))] (by kernel_rfl) fun a47 hs48 => ?_
  refine nd_done ?_
  have hs49 := hs48.kept [0, 1, 2, 3, 27] [(0, .pointer (some ⟨b_x0, 0, none⟩)), (1, .int .i64 x1), (2, .int .i64 x2), (3, .string x3), (27, .bool (!r39))] (by kernel_rfl)
  exact f21_j1_ok hbf hbk h_x0 h_x1 h_x2 h_x3  hQ hr (Mem.le.refl _) hst46 hs49 
/-! ### 24: (*salchow/channel.Channel).Cut -/
noncomputable def f24_c : Code := codeOf Try.f24
def f24_post (z : Base) (m : Mem) (G : List Grp) (b_x0 : Nat) (Q : (Int × S62) → Prop) : Ending → World → Prop := fun e w' => ∃ (r : (Int × S62)) (I_i0 : Grp), W.St z w' m (I_i0 :: G) ∧ e = .returned (.int .i64 r.1) ∧ InR .i64 r.1 ∧ OwnS62 m b_x0 I_i0 r.2 ∧ Q r
def f24_YR (z : Base) (m0 : Mem) (G : List Grp) (R : Ending → World → Prop) (b_x0 : Nat) (r : (Int × S62)) : Prop := ∀ {m : Mem} {w : World} {I_i0 : Grp}, m0.le m → W.St z w m (I_i0 :: G) → (InR .i64 r.1) → (OwnS62 m b_x0 I_i0 r.2) →  R (.returned (.int .i64 r.1)) w
theorem f24_YR_mono {z : Base} {m0 m1 : Mem} {G : List Grp} {R : Ending → World → Prop} {b_x0 : Nat} {r : (Int × S62)} (hm : m0.le m1) (h : f24_YR z m0 G R b_x0 r) : f24_YR z m1 G R b_x0 r := by
  intro m w I_i0 hm'
  exact h (hm.trans hm')
def f24  (x0 : S62) (x1 : Int) (x2 : Bool) : M (Int × S62) := fun Q => f35 x0 x1 fun r11 => if r11 = true then (ofO (ix x0.f0 x1) fun x32 => Q ((0 : Int), (⟨(x0.f0.set (Int.toNat x1) x2), x0.f1, x0.f2, x0.f3, x0.f4, x0.f5⟩ : S62))) else (Q ((1 : Int), x0))
theorem f24_ok  {z : Base} {w : World} {m : Mem} {G : List Grp} {b_x0 : Nat} {I_x0 : Grp} {x0 : S62} {x1 : Int} {x2 : Bool} {Q : (Int × S62) → Prop} (hst : W.St z w m (I_x0 :: G)) (h_x0 : OwnS62 m b_x0 I_x0 x0) (h_x1 : InR .i64 x1) (hr : f24  x0 x1 x2 Q) : Calls Try.prog 24 #[.pointer (some ⟨b_x0, 0, none⟩), .int .i64 x1, .bool x2] w (f24_post z m G b_x0 Q) := by
  refine calls_begin (c := f24_c) (n := 18) [.pointer (some ⟨b_x0, 0, none⟩), .int .i64 x1, .bool x2] Try.func24 (by kernel_rfl) Try.ntmps24 (Nat.le_of_ble_eq_true rfl) fun b cs a0 hbf hbk hs0 => ?_
  have hm0 := Mem.le.refl m
  have hQ : ∀ {r : (Int × S62)}, Q r → f24_YR z m G (f24_post z m G b_x0 Q) b_x0 r := by intro r hq m' w' I_i0 hm' hst' hf0_0 hf_i0; exact ⟨r, I_i0,  W.St.less hm' hst', rfl, hf0_0, (OwnS62.flat hf_i0), hq⟩
  unfold f24 at hr
  refine to_seq (sub [0] f24_c) (sub [1] f24_c) (by kernel_rfl) ?_
  refine to_nd 0 1 (rops (sub [0] f24_c)) (by kernel_rfl) (by kernel_rfl) ?_
  refine nd_q (c := 0) 1 [0, 1, 2] hs0 [(0, .pointer (some ⟨b_x0, 0, none⟩)), (1, .int .i64 x1), (2, .bool x2)] (by kernel_rfl) fun a1 hs2 => ?_
  refine nd_done ?_
  refine to_seq (sub [1, 0] f24_c) (sub [1, 1] f24_c) (by kernel_rfl) ?_
  refine to_seq (sub [1, 0, 0] f24_c) (sub [1, 0, 1] f24_c) (by kernel_rfl) ?_
  refine to_nd 1 4 (rops (sub [1, 0, 0] f24_c)) (by kernel_rfl) (by kernel_rfl) ?_
  refine nd_q (c := 2) 2 [0, 1, 2, 7, 8] hs2 [(0, .pointer (some ⟨b_x0, 0, none⟩)), (1, .int .i64 x1), (2, .bool x2), (7, .pointer (some ⟨b_x0, 0, none⟩)), (8, .int .i64 x1)] (by kernel_rfl) fun a3 hs4 => ?_
  have hz6 := h_x0.lend hst
  have hst7 := W.St.freeze hst
  have hm8 := Mem.le_add m I_x0
  generalize hq9 : Mem.add m I_x0 = m5 at hz6 hst7 hm8
  obtain ⟨aq10_0, cq10_0, rq10_1, aq10_2, cq10_2, hAq10, hfq10_0, hfq10_1, hfq10_2, hfq10_3, hfq10_4, hfq10_5⟩ := hz6
  refine nd_op (op_call (some 9) hs4 (by kernel_rfl) (by kernel_rfl) ((f35_ok hst7 hAq10 hfq10_0 hfq10_1 hfq10_2 hfq10_3 hfq10_4 hfq10_5 h_x1 hr).mono ?_))
  rintro _ w12 ⟨r11, hst15, rfl, hr⟩
  revert hr; intro hr
  refine ⟨_, rfl, fun a13 hs14 => ?_⟩
  have hst18 := W.St.thaw2 hst (by rw [hq9]; exact Mem.le.refl _) hst15
  refine nd_q (c := 0) 1 [0, 1, 2, 10] hs14 [(0, .pointer (some ⟨b_x0, 0, none⟩)), (1, .int .i64 x1), (2, .bool x2), (10, .bool (!r11))] (by kernel_rfl) fun a19 hs20 => ?_
  refine nd_done ?_
  by_cases hb21 : r11 = true
  rotate_left
  · rw [if_neg hb21] at hr
    rw [(bF hb21)] at hs20
    refine to_then (.tmp 10) (sub [1, 0, 1, 0] f24_c) (sub [1, 0, 1, 1] f24_c) (by kernel_rfl) hs20 (by kernel_rfl) ?_
    refine to_seq (sub [1, 0, 1, 0, 0] f24_c) (sub [1, 0, 1, 0, 1] f24_c) (by kernel_rfl) ?_
    refine to_nd 2 1 (rops (sub [1, 0, 1, 0, 0] f24_c)) (by kernel_rfl) (by kernel_rfl) ?_
    refine nd_q (c := 0) 1 [6] hs20 [(6, .int .i64 (1 : Int))] (by kernel_rfl) fun a48 hs49 => ?_
    refine nd_done ?_
    exact to_ret (v := .int .i64 (1 : Int)) (by kernel_rfl) hbf Try.func24 hbk hs49 (by kernel_rfl) (hQ hr (Mem.le.refl _) hst18 (inr_of (by kernel_rfl)) h_x0)
  rw [if_pos hb21] at hr
  rw [(bT hb21)] at hs20
  refine to_else (.tmp 10) (sub [1, 0, 1, 0] f24_c) (sub [1, 0, 1, 1] f24_c) (by kernel_rfl) hs20 (by kernel_rfl) ?_
  refine to_skip (by kernel_rfl) ?_
  refine to_seq (sub [1, 1, 0] f24_c) (sub [1, 1, 1] f24_c) (by kernel_rfl) ?_
  refine to_nd 3 8 (rops (sub [1, 1, 0] f24_c)) (by kernel_rfl) (by kernel_rfl) ?_
  refine nd_q (c := 5) 3 [1, 2, 13] hs20 [(1, .int .i64 x1), (2, .bool x2), (13, .pointer (some ⟨b_x0, 0, none⟩))] (by kernel_rfl) fun a22 hs23 => ?_
  obtain ⟨aq24_0, cq24_0, Iq24_0, rq24_1, Iq24_1, aq24_2, cq24_2, Iq24_2, hI25, hfq24_0, hfq24_1, hfq24_2, hfq24_3, hfq24_4, hfq24_5⟩ := id h_x0
  have hst26 := hst18
  rw [hI25] at hst26
  have hst27 := hst26.split.split.split
  refine nd_v (i := 3) (c := 4) 14 (.slice aq24_0 x0.f0.length cq24_0) hs23 (by kernel_rfl) (ld1_run (P := Try.prog) (ad := ⟨b_x0, 0, none⟩) (by kernel_rfl) (W.St.ocell [] hst27 0 (Nat.le_of_ble_eq_true rfl))) fun a28 hs29 => ?_
  refine nd_q (c := 2) 2 [14, 15, 16] hs29 [(14, .slice aq24_0 x0.f0.length cq24_0), (15, .int .i64 x1), (16, .bool x2)] (by kernel_rfl) fun a30 hs31 => ?_
  obtain ⟨x32, hx32, hr⟩ := ofO_el hr
  obtain ⟨ad32, c32, hC32, hR32, hX32, hW32⟩ := own_ix hfq24_0 hx32
  have he32 := kBool_open hR32
  refine nd_v (i := 6) (c := 1) 17 (.pointer (some ad32)) hs31 (by kernel_rfl) (hX32 (P := Try.prog) (w := w12) (by kernel_rfl)) fun a33 hs34 => ?_
  have hst36 := W.St.front [_] hst27
  obtain ⟨Iq35, wq35, hxq35, hstq35, hoq35⟩ := hW32 (P := Try.prog) (o := opAt (rops (sub [1, 1, 0] f24_c)) 7) (ρ := Env.rho hs34.env) 0 [.bool x32] [.bool x2] x2 (by kernel_rfl) (by kernel_rfl) (Nat.le_of_ble_eq_true rfl) rfl he32 hst36 kBool_mk
  have hlq35 : x0.f0.length = ((x0.f0.set (Int.toNat x1) x2)).length := by simp
  refine nd_op (op_s none hs34 (by kernel_rfl) hxq35 fun a37 hs38 => ?_)
  try rw [hlq35] at hs38
  try rw [hlq35] at hstq35
  refine nd_done ?_
  refine to_seq (sub [1, 1, 1, 0] f24_c) (sub [1, 1, 1, 1] f24_c) (by kernel_rfl) ?_
  refine to_nd 4 1 (rops (sub [1, 1, 1, 0] f24_c)) (by kernel_rfl) (by kernel_rfl) ?_
  refine nd_q (c := 0) 1 [6] hs38 [(6, .int .i64 (0 : Int))] (by kernel_rfl) fun a39 hs40 => ?_
  refine nd_done ?_
  have hst41 := W.St.front [_, _, _] hstq35
  have hst42 := W.St.front [_, _, _] hst41
  have hst43 := W.St.front [_, _] hst42
  have hst44 := W.St.front [_, _, _] hst43
  have hst45 := hst44.join.join.join
  have ho46 : OwnS62 m b_x0 (((([(b_x0, .cells [.slice aq24_0 (x0.f0.set (Int.toNat x1) x2).length cq24_0, .map (some rq24_1), .slice aq24_2 x0.f2.length cq24_2, .int .i64 x0.f3, .int .i64 x0.f4, .int .i64 x0.f5].toArray 63 (0, 0))] ++ Iq35) ++ Iq24_1) ++ Iq24_2)) (⟨(x0.f0.set (Int.toNat x1) x2), x0.f1, x0.f2, x0.f3, x0.f4, x0.f5⟩ : S62) := ⟨aq24_0, cq24_0, Iq35, rq24_1, Iq24_1, aq24_2, cq24_2, Iq24_2, rfl, hoq35, hfq24_1, hfq24_2, hfq24_3, hfq24_4, hfq24_5⟩
  generalize ((([(b_x0, .cells [.slice aq24_0 (x0.f0.set (Int.toNat x1) x2).length cq24_0, .map (some rq24_1), .slice aq24_2 x0.f2.length cq24_2, .int .i64 x0.f3, .int .i64 x0.f4, .int .i64 x0.f5].toArray 63 (0, 0))] ++ Iq35) ++ Iq24_1) ++ Iq24_2) = I47 at ho46 hst45
  exact to_ret (v := .int .i64 (0 : Int)) (by kernel_rfl) hbf Try.func24 hbk hs40 (by kernel_rfl) (hQ hr (Mem.le.refl _) hst45 (inr_of (by kernel_rfl)) ho46)
/-! ### 34: (*salchow/channel.Channel).connected -/
noncomputable def f34_c : Code := codeOf Try.f34
def f34_post (z : Base) (m : Mem) (G : List Grp)  (Q : Bool → Prop) : Ending → World → Prop := fun e w' => ∃ (r : Bool) , W.St z w' m (G) ∧ e = .returned (.bool r) ∧ Q r
def f34_YR (z : Base) (m0 : Mem) (G : List Grp) (R : Ending → World → Prop)  (r : Bool) : Prop := ∀ {m : Mem} {w : World} , m0.le m → W.St z w m (G) →  R (.returned (.bool r)) w
theorem f34_YR_mono {z : Base} {m0 m1 : Mem} {G : List Grp} {R : Ending → World → Prop}  {r : Bool} (hm : m0.le m1) (h : f34_YR z m0 G R  r) : f34_YR z m1 G R  r := by
  intro m w  hm'
  exact h (hm.trans hm')
def f34  (x0 : S62) (x1 : S36) : M Bool := fun Q => ofO (ix x0.f0 (w64 (x1.f0 + x1.f1))) fun x42 => Q (!x42)
theorem f34_ok  {z : Base} {w : World} {m : Mem} {G : List Grp} {ad_x0 : Addr} {a_x0_0 : Option Addr} {c_x0_0 : Nat} {r_x0_1 : Option Nat} {a_x0_2 : Option Addr} {c_x0_2 : Nat} {x0 : S62} {x1 : S36} {Q : Bool → Prop} (hst : W.St z w m (G)) (hA_x0 : At m ad_x0 6 (cells [.slice a_x0_0 x0.f0.length c_x0_0, .map r_x0_1, .slice a_x0_2 x0.f2.length c_x0_2, .int .i64 x0.f3, .int .i64 x0.f4, .int .i64 x0.f5])) (h_x0_0 : Sl kBool 1 m a_x0_0 c_x0_0 x0.f0) (h_x0_1 : ImmM (Value.int .i64) k36 m r_x0_1 x0.f1) (h_x0_2 : Sl (kInt .i64) 8 m a_x0_2 c_x0_2 x0.f2) (h_x0_3 : InR .i64 x0.f3) (h_x0_4 : InR .i64 x0.f4) (h_x0_5 : InR .i64 x0.f5) (h_x1_0 : InR .i64 x1.f0) (h_x1_1 : InR .i64 x1.f1) (h_x1_2 : x1.f2.size ≤ reach) (hr : f34  x0 x1 Q) : Calls Try.prog 34 #[.pointer (some ad_x0), .agg #[.int .i64 x1.f0, .int .i64 x1.f1, .string x1.f2]] w (f34_post z m G  Q) := by
  refine calls_begin (c := f34_c) (n := 17) [.pointer (some ad_x0), .agg #[.int .i64 x1.f0, .int .i64 x1.f1, .string x1.f2]] Try.func34 (by kernel_rfl) Try.ntmps34 (Nat.le_of_ble_eq_true rfl) fun b cs a0 hbf hbk hs0 => ?_
  have hm0 := Mem.le.refl m
  have hQ : ∀ {r : Bool}, Q r → f34_YR z m G (f34_post z m G  Q)  r := by intro r hq m' w'  hm' hst' ; exact ⟨r,  W.St.less hm' hst', rfl, hq⟩
  unfold f34 at hr
  refine to_seq (sub [0] f34_c) (sub [1] f34_c) (by kernel_rfl) ?_
  refine to_nd 0 2 (rops (sub [0] f34_c)) (by kernel_rfl) (by kernel_rfl) ?_
  have hst3 := hst.alloc (.cells [.int .i64 x1.f0, .int .i64 x1.f1, .string x1.f2].toArray 37 (0, 0))
  refine nd_op (op_v (w' := w.alloc (.cells [.int .i64 x1.f0, .int .i64 x1.f1, .string x1.f2].toArray 37 (0, 0))) (some 3) (.pointer (some ⟨w.heap.size, 0, none⟩)) hs0 (by kernel_rfl) (by kernel_rfl) fun a4 hs5 => ?_)
  generalize w.heap.size = b1 at hst3 hs5
  generalize w.alloc (.cells [.int .i64 x1.f0, .int .i64 x1.f1, .string x1.f2].toArray 37 (0, 0)) = w2 at hst3 ⊢
  refine nd_q (c := 0) 1 [0, 3] hs5 [(0, .pointer (some ad_x0)), (3, .pointer (some ⟨b1, 0, none⟩))] (by kernel_rfl) fun a6 hs7 => ?_
  refine nd_done ?_
  refine to_seq (sub [1, 0] f34_c) (sub [1, 1] f34_c) (by kernel_rfl) ?_
  have hs8 := hs7.kept [0, 3] [(0, .pointer (some ad_x0)), (3, .pointer (some ⟨b1, 0, none⟩))] (by kernel_rfl)
  refine to_dr 1 13 (rops (sub [1, 0] f34_c)) (by kernel_rfl) (by kernel_rfl) (by kernel_rfl) [] (fun w => Go.Proofs.Ytcnlbnccghjeaaa.W.St z w m ([(b1, .cells [.int .i64 x1.f0, .int .i64 x1.f1, .string x1.f2].toArray 37 (0, 0))] :: G)) (fun _ _ => True) fun hd9 => ?_
  have hst11 := hst3.drawn (w2.drawn + 1)
  generalize hw12 : ({ w2 with drawn := w2.drawn + 1 } : World) = w10 at hst11 ⊢
  clear hw12
  refine dr_q (fuel := 10) [0, 1, 2] [3, 7] [] hs8 hd9 ⟨hst11, fun _ hx => by cases hx⟩ (by kernel_rfl) (by kernel_rfl) ([(7, .pointer (some ad_x0)), (6, .pointer (some ad_x0)), (5, .pointer (some ad_x0))] ++ [(0, .pointer (some ad_x0)), (3, .pointer (some ⟨b1, 0, none⟩))]) [(3, .pointer (some ⟨b1, 0, none⟩)), (7, .pointer (some ad_x0))] (by kernel_rfl) (by kernel_rfl) (fun _ hx => by cases hx) (fun w hT _ => by kernel_rfl) fun a13 hs14 hd15 hS16 => ?_
  refine dr_vp (fuel := 9) 3 8 (.slice a_x0_0 x0.f0.length c_x0_0) [] hs14 hd15 ⟨hst11, fun _ hx => by cases hx⟩ (by kernel_rfl) (by kernel_rfl) (by kernel_rfl) (fun _ hx => by cases hx) (by kernel_rfl) (fun w hT hF => ld1_run (P := Try.prog) (ad := ad_x0) (by kernel_rfl) (hA_x0.cell0 hT (Nat.le_of_ble_eq_true rfl))) fun a18 hs19 hd17 hS20 => ?_
  refine dr_q (fuel := 8) [4] [3, 8, 9] [] hs19 hd17 ⟨hst11, fun _ hx => by cases hx⟩ (by kernel_rfl) (by kernel_rfl) ([(9, .pointer (some ⟨b1, 0, none⟩))] ++ ((8, .slice a_x0_0 x0.f0.length c_x0_0) :: [(3, .pointer (some ⟨b1, 0, none⟩)), (7, .pointer (some ad_x0))])) [(3, .pointer (some ⟨b1, 0, none⟩)), (8, .slice a_x0_0 x0.f0.length c_x0_0), (9, .pointer (some ⟨b1, 0, none⟩))] (by kernel_rfl) (by kernel_rfl) (fun _ hx => by cases hx) (fun w hT _ => by kernel_rfl) fun a21 hs22 hd23 hS24 => ?_
  refine dr_vp (fuel := 7) 5 10 (.int .i64 x1.f0) [] hs22 hd23 ⟨hst11, fun _ hx => by cases hx⟩ (by kernel_rfl) (by kernel_rfl) (by kernel_rfl) (fun _ hx => by cases hx) (by kernel_rfl) (fun w hT hF => ld1_run (P := Try.prog) (ad := ⟨b1, 0, none⟩) (by kernel_rfl) (W.St.ocell [] hT 0 (Nat.le_of_ble_eq_true rfl))) fun a26 hs27 hd25 hS28 => ?_
  refine dr_q (fuel := 6) [6] [8, 10, 11] [] hs27 hd25 ⟨hst11, fun _ hx => by cases hx⟩ (by kernel_rfl) (by kernel_rfl) ([(11, .pointer (some ⟨b1, 1, none⟩))] ++ ((10, .int .i64 x1.f0) :: [(3, .pointer (some ⟨b1, 0, none⟩)), (8, .slice a_x0_0 x0.f0.length c_x0_0), (9, .pointer (some ⟨b1, 0, none⟩))])) [(8, .slice a_x0_0 x0.f0.length c_x0_0), (10, .int .i64 x1.f0), (11, .pointer (some ⟨b1, 1, none⟩))] (by kernel_rfl) (by kernel_rfl) (fun _ hx => by cases hx) (fun w hT _ => by kernel_rfl) fun a29 hs30 hd31 hS32 => ?_
  refine dr_vp (fuel := 5) 7 12 (.int .i64 x1.f1) [] hs30 hd31 ⟨hst11, fun _ hx => by cases hx⟩ (by kernel_rfl) (by kernel_rfl) (by kernel_rfl) (fun _ hx => by cases hx) (by kernel_rfl) (fun w hT hF => ld1_run (P := Try.prog) (ad := ⟨b1, 1, none⟩) (by kernel_rfl) (W.St.ocell [] hT 1 (Nat.le_of_ble_eq_true rfl))) fun a34 hs35 hd33 hS36 => ?_
  refine dr_q (fuel := 4) [8] [8, 13] [] hs35 hd33 ⟨hst11, fun _ hx => by cases hx⟩ (by kernel_rfl) (by kernel_rfl) ([(13, .int .i64 (w64 (x1.f0 + x1.f1)))] ++ ((12, .int .i64 x1.f1) :: [(8, .slice a_x0_0 x0.f0.length c_x0_0), (10, .int .i64 x1.f0), (11, .pointer (some ⟨b1, 1, none⟩))])) [(8, .slice a_x0_0 x0.f0.length c_x0_0), (13, .int .i64 (w64 (x1.f0 + x1.f1)))] (by kernel_rfl) (by kernel_rfl) (fun _ hx => by cases hx) (fun w hT _ => by kernel_rfl) fun a37 hs38 hd39 hS40 => ?_
  obtain ⟨x42, hx42, hr⟩ := ofO_el hr
  obtain ⟨ad42, c42, hA42, hR42, hX42⟩ := Row.ix h_x0_0.1 hx42
  have he42 := kBool_open hR42
  have hB42 := hA42.conv he42
  refine dr_vp (fuel := 3) 9 14 (.pointer (some ad42)) [] hs38 hd39 ⟨hst11, fun _ hx => by cases hx⟩ (by kernel_rfl) (by kernel_rfl) (by kernel_rfl) (fun _ hx => by cases hx) (by kernel_rfl) (fun w hT hF => hX42 (P := Try.prog) (w := w) (by kernel_rfl)) fun a43 hs44 hd41 hS45 => ?_
  refine dr_vp (fuel := 2) 10 15 (.bool x42) [] hs44 hd41 ⟨hst11, fun _ hx => by cases hx⟩ (by kernel_rfl) (by kernel_rfl) (by kernel_rfl) (fun _ hx => by cases hx) (by kernel_rfl) (fun w hT hF => ld1_run (P := Try.prog) (ad := ad42) (by kernel_rfl) (hB42.cell0 hT (Nat.le_of_ble_eq_true rfl))) fun a47 hs48 hd46 hS49 => ?_
  refine dr_q (fuel := 0) [11, 12] [4] [] hs48 hd46 ⟨hst11, fun _ hx => by cases hx⟩ (by kernel_rfl) (by kernel_rfl) ([(4, .bool (!x42)), (16, .bool (!x42))] ++ ((15, .bool x42) :: ((14, .pointer (some ad42)) :: [(8, .slice a_x0_0 x0.f0.length c_x0_0), (13, .int .i64 (w64 (x1.f0 + x1.f1)))]))) [(4, .bool (!x42))] (by kernel_rfl) (by kernel_rfl) (fun _ hx => by cases hx) (fun w hT _ => by kernel_rfl) fun a50 hs51 hd52 hS53 => ?_
  refine dr_done (by kernel_rfl) ?_
  have hst54 := W.St.drop [] hst11
  exact to_ret (v := .bool (!x42)) (by kernel_rfl) hbf Try.func34 hbk hs51 (by kernel_rfl) (hQ hr (Mem.le.refl _) hst54 )
/-! ### 42: cmp.isNaN[int] -/
noncomputable def f42_c : Code := codeOf Try.f42
def f42_post (z : Base) (m : Mem) (G : List Grp)  (Q : Bool → Prop) : Ending → World → Prop := fun e w' => ∃ (r : Bool) , W.St z w' m (G) ∧ e = .returned (.bool r) ∧ Q r
def f42_YR (z : Base) (m0 : Mem) (G : List Grp) (R : Ending → World → Prop)  (r : Bool) : Prop := ∀ {m : Mem} {w : World} , m0.le m → W.St z w m (G) →  R (.returned (.bool r)) w
theorem f42_YR_mono {z : Base} {m0 m1 : Mem} {G : List Grp} {R : Ending → World → Prop}  {r : Bool} (hm : m0.le m1) (h : f42_YR z m0 G R  r) : f42_YR z m1 G R  r := by
  intro m w  hm'
  exact h (hm.trans hm')
def f42  (x0 : Int) : M Bool := fun Q => Q (x0 != x0)
theorem f42_ok  {z : Base} {w : World} {m : Mem} {G : List Grp} {x0 : Int} {Q : Bool → Prop} (hst : W.St z w m (G)) (h_x0 : InR .i64 x0) (hr : f42  x0 Q) : Calls Try.prog 42 #[.int .i64 x0] w (f42_post z m G  Q) := by
  refine calls_begin (c := f42_c) (n := 6) [.int .i64 x0] Try.func42 (by kernel_rfl) Try.ntmps42 (Nat.le_of_ble_eq_true rfl) fun b cs a0 hbf hbk hs0 => ?_
  have hm0 := Mem.le.refl m
  have hQ : ∀ {r : Bool}, Q r → f42_YR z m G (f42_post z m G  Q)  r := by intro r hq m' w'  hm' hst' ; exact ⟨r,  W.St.less hm' hst', rfl, hq⟩
  unfold f42 at hr
  refine to_seq (sub [0] f42_c) (sub [1] f42_c) (by kernel_rfl) ?_
  refine to_nd 0 1 (rops (sub [0] f42_c)) (by kernel_rfl) (by kernel_rfl) ?_
  refine nd_q (c := 0) 1 [0] hs0 [(0, .int .i64 x0)] (by kernel_rfl) fun a1 hs2 => ?_
  refine nd_done ?_
  refine to_seq (sub [1, 0] f42_c) (sub [1, 1] f42_c) (by kernel_rfl) ?_
  refine to_nd 1 4 (rops (sub [1, 0] f42_c)) (by kernel_rfl) (by kernel_rfl) ?_
  refine nd_q (c := 0) 4 [2] hs2 [(2, .bool (x0 != x0))] (by kernel_rfl) fun a3 hs4 => ?_
  refine nd_done ?_
  exact to_ret (v := .bool (x0 != x0)) (by kernel_rfl) hbf Try.func42 hbk hs4 (by kernel_rfl) (hQ hr (Mem.le.refl _) hst )
/-! ### 40: cmp.Less[int] -/
noncomputable def f40_c : Code := codeOf Try.f40
def f40_post (z : Base) (m : Mem) (G : List Grp)  (Q : Bool → Prop) : Ending → World → Prop := fun e w' => ∃ (r : Bool) , W.St z w' m (G) ∧ e = .returned (.bool r) ∧ Q r
def f40_YR (z : Base) (m0 : Mem) (G : List Grp) (R : Ending → World → Prop)  (r : Bool) : Prop := ∀ {m : Mem} {w : World} , m0.le m → W.St z w m (G) →  R (.returned (.bool r)) w
theorem f40_YR_mono {z : Base} {m0 m1 : Mem} {G : List Grp} {R : Ending → World → Prop}  {r : Bool} (hm : m0.le m1) (h : f40_YR z m0 G R  r) : f40_YR z m1 G R  r := by
  intro m w  hm'
  exact h (hm.trans hm')
def f40  (x0 : Int) (x1 : Int) : M Bool := fun Q => f42 x0 fun r5 => if r5 = true then (f42 x1 fun r17 => if r17 = true then (Q (decide (x0 < x1))) else (Q true)) else (Q (decide (x0 < x1)))
theorem f40_ok  {z : Base} {w : World} {m : Mem} {G : List Grp} {x0 : Int} {x1 : Int} {Q : Bool → Prop} (hst : W.St z w m (G)) (h_x0 : InR .i64 x0) (h_x1 : InR .i64 x1) (hr : f40  x0 x1 Q) : Calls Try.prog 40 #[.int .i64 x0, .int .i64 x1] w (f40_post z m G  Q) := by
  refine calls_begin (c := f40_c) (n := 17) [.int .i64 x0, .int .i64 x1] Try.func40 (by kernel_rfl) Try.ntmps40 (Nat.le_of_ble_eq_true rfl) fun b cs a0 hbf hbk hs0 => ?_
  have hm0 := Mem.le.refl m
  have hQ : ∀ {r : Bool}, Q r → f40_YR z m G (f40_post z m G  Q)  r := by intro r hq m' w'  hm' hst' ; exact ⟨r,  W.St.less hm' hst', rfl, hq⟩
  unfold f40 at hr
  refine to_seq (sub [0] f40_c) (sub [1] f40_c) (by kernel_rfl) ?_
  refine to_nd 0 1 (rops (sub [0] f40_c)) (by kernel_rfl) (by kernel_rfl) ?_
  refine nd_q (c := 0) 1 [0, 1] hs0 [(0, .int .i64 x0), (1, .int .i64 x1)] (by kernel_rfl) fun a1 hs2 => ?_
  refine nd_done ?_
  refine to_seq (sub [1, 0] f40_c) (sub [1, 1] f40_c) (by kernel_rfl) ?_
  refine to_nd 1 13 (rops (sub [1, 0] f40_c)) (by kernel_rfl) (by kernel_rfl) ?_
  refine nd_q (c := 12) 1 [0, 1, 5] hs2 [(0, .int .i64 x0), (1, .int .i64 x1), (5, .int .i64 x0)] (by kernel_rfl) fun a3 hs4 => ?_
  refine nd_op (op_call (some 6) hs4 (by kernel_rfl) (by kernel_rfl) ((f42_ok hst h_x0 hr).mono ?_))
  rintro _ w6 ⟨r5, hst9, rfl, hr⟩
  revert hr; intro hr
  refine ⟨_, rfl, fun a7 hs8 => ?_⟩
  refine nd_q (c := 10) 1 [0, 1, 7] hs8 [(0, .int .i64 x0), (1, .int .i64 x1), (7, .bool r5)] (by kernel_rfl) fun a12 hs13 => ?_
  by_cases hb14 : r5 = true
  rotate_left
  · rw [if_neg hb14] at hr
    rw [(bF hb14)] at hs13
    refine nd_q (c := 0) 10 [4] hs13 [(4, .bool (decide (x0 < x1)))] (by kernel_rfl) fun a31 hs32 => ?_
    refine nd_done ?_
    exact to_ret (v := .bool (decide (x0 < x1))) (by kernel_rfl) hbf Try.func40 hbk hs32 (by kernel_rfl) (hQ hr (Mem.le.refl _) hst9 )
  rw [if_pos hb14] at hr
  rw [(bT hb14)] at hs13
  refine nd_q (c := 9) 1 [0, 1, 7, 8] hs13 [(0, .int .i64 x0), (1, .int .i64 x1), (7, .bool true), (8, .int .i64 x1)] (by kernel_rfl) fun a15 hs16 => ?_
  refine nd_op (op_call (some 9) hs16 (by kernel_rfl) (by kernel_rfl) ((f42_ok hst9 h_x1 hr).mono ?_))
  rintro _ w18 ⟨r17, hst21, rfl, hr⟩
  revert hr; intro hr
  refine ⟨_, rfl, fun a19 hs20 => ?_⟩
  refine nd_q (c := 5) 3 [0, 1, 12] hs20 [(0, .int .i64 x0), (1, .int .i64 x1), (12, .bool (!r17))] (by kernel_rfl) fun a24 hs25 => ?_
  by_cases hb26 : r17 = true
  · rw [if_pos hb26] at hr
    rw [(bT hb26)] at hs25
    refine nd_q (c := 0) 5 [4] hs25 [(4, .bool (decide (x0 < x1)))] (by kernel_rfl) fun a27 hs28 => ?_
    refine nd_done ?_
    exact to_ret (v := .bool (decide (x0 < x1))) (by kernel_rfl) hbf Try.func40 hbk hs28 (by kernel_rfl) (hQ hr (Mem.le.refl _) hst21 )
  rw [if_neg hb26] at hr
  rw [(bF hb26)] at hs25
  refine nd_q (c := 0) 5 [4] hs25 [(4, .bool true)] (by kernel_rfl) fun a29 hs30 => ?_
  refine nd_done ?_
  exact to_ret (v := .bool true) (by kernel_rfl) hbf Try.func40 hbk hs30 (by kernel_rfl) (hQ hr (Mem.le.refl _) hst21 )
/-! ### 41: slices.isNaN[int] -/
noncomputable def f41_c : Code := codeOf Try.f41
def f41_post (z : Base) (m : Mem) (G : List Grp)  (Q : Bool → Prop) : Ending → World → Prop := fun e w' => ∃ (r : Bool) , W.St z w' m (G) ∧ e = .returned (.bool r) ∧ Q r
def f41_YR (z : Base) (m0 : Mem) (G : List Grp) (R : Ending → World → Prop)  (r : Bool) : Prop := ∀ {m : Mem} {w : World} , m0.le m → W.St z w m (G) →  R (.returned (.bool r)) w
theorem f41_YR_mono {z : Base} {m0 m1 : Mem} {G : List Grp} {R : Ending → World → Prop}  {r : Bool} (hm : m0.le m1) (h : f41_YR z m0 G R  r) : f41_YR z m1 G R  r := by
  intro m w  hm'
  exact h (hm.trans hm')
def f41  (x0 : Int) : M Bool := fun Q => Q (x0 != x0)
theorem f41_ok  {z : Base} {w : World} {m : Mem} {G : List Grp} {x0 : Int} {Q : Bool → Prop} (hst : W.St z w m (G)) (h_x0 : InR .i64 x0) (hr : f41  x0 Q) : Calls Try.prog 41 #[.int .i64 x0] w (f41_post z m G  Q) := by
  refine calls_begin (c := f41_c) (n := 6) [.int .i64 x0] Try.func41 (by kernel_rfl) Try.ntmps41 (Nat.le_of_ble_eq_true rfl) fun b cs a0 hbf hbk hs0 => ?_
  have hm0 := Mem.le.refl m
  have hQ : ∀ {r : Bool}, Q r → f41_YR z m G (f41_post z m G  Q)  r := by intro r hq m' w'  hm' hst' ; exact ⟨r,  W.St.less hm' hst', rfl, hq⟩
  unfold f41 at hr
  refine to_seq (sub [0] f41_c) (sub [1] f41_c) (by kernel_rfl) ?_
  refine to_nd 0 1 (rops (sub [0] f41_c)) (by kernel_rfl) (by kernel_rfl) ?_
  refine nd_q (c := 0) 1 [0] hs0 [(0, .int .i64 x0)] (by kernel_rfl) fun a1 hs2 => ?_
  refine nd_done ?_
  refine to_seq (sub [1, 0] f41_c) (sub [1, 1] f41_c) (by kernel_rfl) ?_
  refine to_nd 1 4 (rops (sub [1, 0] f41_c)) (by kernel_rfl) (by kernel_rfl) ?_
  refine nd_q (c := 0) 4 [2] hs2 [(2, .bool (x0 != x0))] (by kernel_rfl) fun a3 hs4 => ?_
  refine nd_done ?_
  exact to_ret (v := .bool (x0 != x0)) (by kernel_rfl) hbf Try.func41 hbk hs4 (by kernel_rfl) (hQ hr (Mem.le.refl _) hst )
/-! ### 38: slices.BinarySearch[[]int,int] -/
noncomputable def f38_c : Code := codeOf Try.f38
def f38_post (z : Base) (m : Mem) (G : List Grp)  (Q : (Int × Bool) → Prop) : Ending → World → Prop := fun e w' => ∃ (r : (Int × Bool)) , W.St z w' m (G) ∧ e = .returned (.tuple #[.int .i64 r.1, .bool r.2]) ∧ InR .i64 r.1 ∧ Q r
def f38_YR (z : Base) (m0 : Mem) (G : List Grp) (R : Ending → World → Prop)  (r : (Int × Bool)) : Prop := ∀ {m : Mem} {w : World} , m0.le m → W.St z w m (G) → (InR .i64 r.1) →  R (.returned (.tuple #[.int .i64 r.1, .bool r.2])) w
theorem f38_YR_mono {z : Base} {m0 m1 : Mem} {G : List Grp} {R : Ending → World → Prop}  {r : (Int × Bool)} (hm : m0.le m1) (h : f38_YR z m0 G R  r) : f38_YR z m1 G R  r := by
  intro m w  hm'
  exact h (hm.trans hm')
def f38_l1_Y (z : Base) (m0 : Mem) (G : List Grp) (b : Frame) (cs : List Frame) (R : Ending → World → Prop) (a_x'0 : Option Addr) (c_x'0 : Nat) (x'0 : (List Int)) (target'1 : Int) (n'6 : Int) (i'7 : Int) (j'8 : Int) : Prop := ∀ {m : Mem} {w : World} {a : Act} , m0.le m → W.St z w m (G) → Has 54 a [(0, .slice a_x'0 x'0.length c_x'0), (1, .int .i64 target'1), (6, .int .i64 n'6), (7, .int .i64 i'7), (8, .int .i64 j'8)] → (InR .i64 i'7) → (InR .i64 j'8) → Reach Try.prog b cs R [.code (sub [1, 1, 1, 0, 0, 0] f38_c), .inLoop (sub [1, 1, 1, 0, 0, 0] f38_c), .inBlock 0, .code (sub [1, 1, 1, 1] f38_c)] a w
def f38_j2_Y (z : Base) (m0 : Mem) (G : List Grp) (b : Frame) (cs : List Frame) (R : Ending → World → Prop) (a_x'0 : Option Addr) (c_x'0 : Nat) (x'0 : (List Int)) (target'1 : Int) (n'6 : Int) (i'7 : Int) (j'8 : Int) : Prop := ∀ {m : Mem} {w : World} {a : Act} , m0.le m → W.St z w m (G) → Has 54 a [(0, .slice a_x'0 x'0.length c_x'0), (1, .int .i64 target'1), (6, .int .i64 n'6), (7, .int .i64 i'7), (8, .int .i64 j'8)] → (InR .i64 i'7) → (InR .i64 j'8) → Reach Try.prog b cs R [.inBlock 1, .inLoop (sub [1, 1, 1, 0, 0, 0] f38_c), .inBlock 0, .code (sub [1, 1, 1, 1] f38_c)] a w
def f38_j2 (x'0 : (List Int)) (target'1 : Int) (n'6 : Int) (X : Int → Int → Prop) (i'7 : Int) (j'8 : Int) : Prop := X i'7 j'8
theorem f38_j2_ok {z : Base} {m0 : Mem} {G : List Grp} {b : Frame} {cs : List Frame} {R : Ending → World → Prop} {a_x'0 : Option Addr} {c_x'0 : Nat} {x'0 : (List Int)} {target'1 : Int} {n'6 : Int} {X : Int → Int → Prop} (hbf : b.fn = 38) (hbk : b.kind = .normal) (h_x'0 : Sl (kInt .i64) 8 m0 a_x'0 c_x'0 x'0) (h_target'1 : InR .i64 target'1) (h_n'6 : InR .i64 n'6)  (hX : ∀ {i'7 : Int} {j'8 : Int}, X i'7 j'8 → f38_l1_Y z m0 G b cs R a_x'0 c_x'0 x'0 target'1 n'6 i'7 j'8) : ∀ {i'7 : Int} {j'8 : Int}, f38_j2 x'0 target'1 n'6 X i'7 j'8 → f38_j2_Y z m0 G b cs R a_x'0 c_x'0 x'0 target'1 n'6 i'7 j'8 := by
  intro i'7 j'8 hr m w a0  hm0 hst hs0 h_i'7 h_j'8
  unfold f38_j2 at hr
  refine reach_inBlock ?_
  refine reach_inLoop ?_
  have hs1 := hs0.kept [0, 1, 6, 7, 8] [(0, .slice a_x'0 x'0.length c_x'0), (1, .int .i64 target'1), (6, .int .i64 n'6), (7, .int .i64 i'7), (8, .int .i64 j'8)] (by kernel_rfl)
  exact hX hr hm0 hst hs1 h_i'7 h_j'8
def f38_l1_Yk1 (z : Base) (m0 : Mem) (G : List Grp) (b : Frame) (cs : List Frame) (R : Ending → World → Prop) (a_x'0 : Option Addr) (c_x'0 : Nat) (x'0 : (List Int)) (target'1 : Int) (n'6 : Int) (i'7 : Int) : Prop := ∀ {m : Mem} {w : World} {a : Act} , m0.le m → W.St z w m (G) → Has 54 a [(0, .slice a_x'0 x'0.length c_x'0), (1, .int .i64 target'1), (6, .int .i64 n'6), (7, .int .i64 i'7)] → (InR .i64 i'7) → Reach Try.prog b cs R [.code (sub [1, 1, 1, 1] f38_c)] a w
def f38_l1_b (x'0 : (List Int)) (target'1 : Int) (n'6 : Int) (k1 : Int → Prop) (X : Int → Int → Prop) (i'7 : Int) (j'8 : Int) : Prop := if i'7 < j'8 then (ofO (ix x'0 (IntKind.wrap .i64 (Int.fdiv (IntKind.wrap .u64 (w64 (i'7 + j'8))) (2 ^ 1)))) fun x8 => f40 x8 target'1 fun r15 => if r15 = true then (f38_j2 x'0 target'1 n'6 X (w64 ((IntKind.wrap .i64 (Int.fdiv (IntKind.wrap .u64 (w64 (i'7 + j'8))) (2 ^ 1))) + (1 : Int))) j'8) else (f38_j2 x'0 target'1 n'6 X i'7 (IntKind.wrap .i64 (Int.fdiv (IntKind.wrap .u64 (w64 (i'7 + j'8))) (2 ^ 1))))) else (k1 i'7)
def f38_l1 (x'0 : (List Int)) (target'1 : Int) (n'6 : Int) (k1 : Int → Prop) (i'7 : Int) (j'8 : Int) : Prop := ∀ X : Int → Int → Prop, (∀ {i'7 : Int} {j'8 : Int}, f38_l1_b x'0 target'1 n'6 k1 X i'7 j'8 → X i'7 j'8) → X i'7 j'8
theorem f38_l1_ok {z : Base} {m0 : Mem} {G : List Grp} {b : Frame} {cs : List Frame} {R : Ending → World → Prop} {a_x'0 : Option Addr} {c_x'0 : Nat} {x'0 : (List Int)} {target'1 : Int} {n'6 : Int} {k1 : Int → Prop}  (hbf : b.fn = 38) (hbk : b.kind = .normal) (h_x'0 : Sl (kInt .i64) 8 m0 a_x'0 c_x'0 x'0) (h_target'1 : InR .i64 target'1) (h_n'6 : InR .i64 n'6)  (hk1 : ∀ {i'7 : Int}, k1 i'7 → f38_l1_Yk1 z m0 G b cs R a_x'0 c_x'0 x'0 target'1 n'6 i'7) : ∀ {i'7 : Int} {j'8 : Int}, f38_l1 x'0 target'1 n'6 k1 i'7 j'8 → f38_l1_Y z m0 G b cs R a_x'0 c_x'0 x'0 target'1 n'6 i'7 j'8 := by
  intro i'7 j'8 hr
  refine hr (f38_l1_Y z m0 G b cs R a_x'0 c_x'0 x'0 target'1 n'6) ?_
  intro i'7 j'8 hr m w a0  hm0 hst hs0 h_i'7 h_j'8
  have hX : ∀ {i'7 : Int} {j'8 : Int}, f38_l1_Y z m0 G b cs R a_x'0 c_x'0 x'0 target'1 n'6 i'7 j'8 → f38_l1_Y z m0 G b cs R a_x'0 c_x'0 x'0 target'1 n'6 i'7 j'8 := fun h => h
  unfold f38_l1_b at hr
  refine to_seq (sub [1, 1, 1, 0, 0, 0, 0] f38_c) (sub [1, 1, 1, 0, 0, 0, 1] f38_c) (by kernel_rfl) ?_
  refine to_seq (sub [1, 1, 1, 0, 0, 0, 0, 0] f38_c) (sub [1, 1, 1, 0, 0, 0, 0, 1] f38_c) (by kernel_rfl) ?_
  refine to_nd 3 3 (rops (sub [1, 1, 1, 0, 0, 0, 0, 0] f38_c)) (by kernel_rfl) (by kernel_rfl) ?_
  refine nd_q (c := 0) 3 [0, 1, 6, 7, 8, 15] hs0 [(0, .slice a_x'0 x'0.length c_x'0), (1, .int .i64 target'1), (6, .int .i64 n'6), (7, .int .i64 i'7), (8, .int .i64 j'8), (15, .bool (decide (i'7 < j'8)))] (by kernel_rfl) fun a1 hs2 => ?_
  refine nd_done ?_
  by_cases hb3 : i'7 < j'8
  rotate_left
  · rw [if_neg hb3] at hr
    rw [(decide_eq_false hb3)] at hs2
    refine to_else (.tmp 15) (sub [1, 1, 1, 0, 0, 0, 0, 1, 0] f38_c) (sub [1, 1, 1, 0, 0, 0, 0, 1, 1] f38_c) (by kernel_rfl) hs2 (by kernel_rfl) ?_
    refine to_exit 0 (by kernel_rfl) [.code (sub [1, 1, 1, 1] f38_c)] rfl ?_
    have hs29 := hs2.kept [0, 1, 6, 7] [(0, .slice a_x'0 x'0.length c_x'0), (1, .int .i64 target'1), (6, .int .i64 n'6), (7, .int .i64 i'7)] (by kernel_rfl)
    exact hk1 hr hm0 hst hs29 h_i'7
  rw [if_pos hb3] at hr
  rw [(decide_eq_true hb3)] at hs2
  refine to_then (.tmp 15) (sub [1, 1, 1, 0, 0, 0, 0, 1, 0] f38_c) (sub [1, 1, 1, 0, 0, 0, 0, 1, 1] f38_c) (by kernel_rfl) hs2 (by kernel_rfl) ?_
  refine to_skip (by kernel_rfl) ?_
  refine to_block 1 (sub [1, 1, 1, 0, 0, 0, 1, 0] f38_c) (by kernel_rfl) ?_
  refine to_seq (sub [1, 1, 1, 0, 0, 0, 1, 0, 0] f38_c) (sub [1, 1, 1, 0, 0, 0, 1, 0, 1] f38_c) (by kernel_rfl) ?_
  refine to_nd 4 7 (rops (sub [1, 1, 1, 0, 0, 0, 1, 0, 0] f38_c)) (by kernel_rfl) (by kernel_rfl) ?_
  refine nd_q (c := 0) 7 [0, 1, 6, 7, 8, 9] hs2 [(0, .slice a_x'0 x'0.length c_x'0), (1, .int .i64 target'1), (6, .int .i64 n'6), (7, .int .i64 i'7), (8, .int .i64 j'8), (9, .int .i64 (IntKind.wrap .i64 (Int.fdiv (IntKind.wrap .u64 (w64 (i'7 + j'8))) (2 ^ 1))))] (by kernel_rfl) fun a4 hs5 => ?_
  refine nd_done ?_
  refine to_seq (sub [1, 1, 1, 0, 0, 0, 1, 0, 1, 0] f38_c) (sub [1, 1, 1, 0, 0, 0, 1, 0, 1, 1] f38_c) (by kernel_rfl) ?_
  refine to_nd 5 6 (rops (sub [1, 1, 1, 0, 0, 0, 1, 0, 1, 0] f38_c)) (by kernel_rfl) (by kernel_rfl) ?_
  refine nd_q (c := 4) 2 [0, 1, 6, 7, 8, 9, 22, 23] hs5 [(0, .slice a_x'0 x'0.length c_x'0), (1, .int .i64 target'1), (6, .int .i64 n'6), (7, .int .i64 i'7), (8, .int .i64 j'8), (9, .int .i64 (IntKind.wrap .i64 (Int.fdiv (IntKind.wrap .u64 (w64 (i'7 + j'8))) (2 ^ 1)))), (22, .slice a_x'0 x'0.length c_x'0), (23, .int .i64 (IntKind.wrap .i64 (Int.fdiv (IntKind.wrap .u64 (w64 (i'7 + j'8))) (2 ^ 1))))] (by kernel_rfl) fun a6 hs7 => ?_
  obtain ⟨x8, hx8, hr⟩ := ofO_el hr
  obtain ⟨ad8, c8, hA8, hR8, hX8⟩ := Row.ix (h_x'0.mono hm0).1 hx8
  obtain ⟨he8, hf8⟩ := kInt_open hR8
  have hB8 := hA8.conv he8
  refine nd_v (i := 2) (c := 3) 24 (.pointer (some ad8)) hs7 (by kernel_rfl) (hX8 (P := Try.prog) (w := w) (by kernel_rfl)) fun a9 hs10 => ?_
  refine nd_v (i := 3) (c := 2) 25 (.int .i64 x8) hs10 (by kernel_rfl) (ld1_run (P := Try.prog) (ad := ad8) (by kernel_rfl) (hB8.cell0 hst (Nat.le_of_ble_eq_true rfl))) fun a11 hs12 => ?_
  refine nd_q (c := 1) 1 [0, 1, 6, 7, 8, 9, 25, 26] hs12 [(0, .slice a_x'0 x'0.length c_x'0), (1, .int .i64 target'1), (6, .int .i64 n'6), (7, .int .i64 i'7), (8, .int .i64 j'8), (9, .int .i64 (IntKind.wrap .i64 (Int.fdiv (IntKind.wrap .u64 (w64 (i'7 + j'8))) (2 ^ 1)))), (25, .int .i64 x8), (26, .int .i64 target'1)] (by kernel_rfl) fun a13 hs14 => ?_
  refine nd_op (op_call (some 27) hs14 (by kernel_rfl) (by kernel_rfl) ((f40_ok hst hf8 h_target'1 hr).mono ?_))
  rintro _ w16 ⟨r15, hst19, rfl, hr⟩
  revert hr; intro hr
  refine ⟨_, rfl, fun a17 hs18 => ?_⟩
  refine nd_done ?_
  by_cases hb22 : r15 = true
  · rw [if_pos hb22] at hr
    rw [(bT hb22)] at hs18
    refine to_then (.tmp 27) (sub [1, 1, 1, 0, 0, 0, 1, 0, 1, 1, 0] f38_c) (sub [1, 1, 1, 0, 0, 0, 1, 0, 1, 1, 1] f38_c) (by kernel_rfl) hs18 (by kernel_rfl) ?_
    refine to_nd 6 3 (rops (sub [1, 1, 1, 0, 0, 0, 1, 0, 1, 1, 0] f38_c)) (by kernel_rfl) (by kernel_rfl) ?_
    refine nd_q (c := 0) 3 [0, 1, 6, 7, 8] hs18 [(0, .slice a_x'0 x'0.length c_x'0), (1, .int .i64 target'1), (6, .int .i64 n'6), (7, .int .i64 (w64 ((IntKind.wrap .i64 (Int.fdiv (IntKind.wrap .u64 (w64 (i'7 + j'8))) (2 ^ 1))) + (1 : Int)))), (8, .int .i64 j'8)] (by kernel_rfl) fun a23 hs24 => ?_
    refine nd_done ?_
    have hs25 := hs24.kept [0, 1, 6, 7, 8] [(0, .slice a_x'0 x'0.length c_x'0), (1, .int .i64 target'1), (6, .int .i64 n'6), (7, .int .i64 (w64 ((IntKind.wrap .i64 (Int.fdiv (IntKind.wrap .u64 (w64 (i'7 + j'8))) (2 ^ 1))) + (1 : Int)))), (8, .int .i64 j'8)] (by kernel_rfl)
    exact f38_j2_ok hbf hbk h_x'0 h_target'1 h_n'6  hX hr hm0 hst19 hs25 (wrap_in .i64 _) h_j'8
  rw [if_neg hb22] at hr
  rw [(bF hb22)] at hs18
  refine to_else (.tmp 27) (sub [1, 1, 1, 0, 0, 0, 1, 0, 1, 1, 0] f38_c) (sub [1, 1, 1, 0, 0, 0, 1, 0, 1, 1, 1] f38_c) (by kernel_rfl) hs18 (by kernel_rfl) ?_
  refine to_nd 7 2 (rops (sub [1, 1, 1, 0, 0, 0, 1, 0, 1, 1, 1] f38_c)) (by kernel_rfl) (by kernel_rfl) ?_
  refine nd_q (c := 0) 2 [0, 1, 6, 7, 8] hs18 [(0, .slice a_x'0 x'0.length c_x'0), (1, .int .i64 target'1), (6, .int .i64 n'6), (7, .int .i64 i'7), (8, .int .i64 (IntKind.wrap .i64 (Int.fdiv (IntKind.wrap .u64 (w64 (i'7 + j'8))) (2 ^ 1))))] (by kernel_rfl) fun a26 hs27 => ?_
  refine nd_done ?_
  have hs28 := hs27.kept [0, 1, 6, 7, 8] [(0, .slice a_x'0 x'0.length c_x'0), (1, .int .i64 target'1), (6, .int .i64 n'6), (7, .int .i64 i'7), (8, .int .i64 (IntKind.wrap .i64 (Int.fdiv (IntKind.wrap .u64 (w64 (i'7 + j'8))) (2 ^ 1))))] (by kernel_rfl)
  exact f38_j2_ok hbf hbk h_x'0 h_target'1 h_n'6  hX hr hm0 hst19 hs28 h_i'7 (wrap_in .i64 _)
def f38  (x0 : (List Int)) (x1 : Int) : M (Int × Bool) := fun Q => f38_l1 x0 x1 (x0.length : Int) (fun i'7e8 => if i'7e8 < (x0.length : Int) then (ofO (ix x0 i'7e8) fun x20 => if x20 = x1 then (Q (i'7e8, true)) else (ofO (ix x0 i'7e8) fun x32 => f41 x32 fun r37 => if r37 = true then (f41 x1 fun r49 => Q (i'7e8, r49)) else (Q (i'7e8, false)))) else (Q (i'7e8, false))) (0 : Int) (x0.length : Int)
theorem f38_ok  {z : Base} {w : World} {m : Mem} {G : List Grp} {a_x0 : Option Addr} {c_x0 : Nat} {x0 : (List Int)} {x1 : Int} {Q : (Int × Bool) → Prop} (hst : W.St z w m (G)) (h_x0 : Sl (kInt .i64) 8 m a_x0 c_x0 x0) (h_x1 : InR .i64 x1) (hr : f38  x0 x1 Q) : Calls Try.prog 38 #[.slice a_x0 x0.length c_x0, .int .i64 x1] w (f38_post z m G  Q) := by
  refine calls_begin (c := f38_c) (n := 54) [.slice a_x0 x0.length c_x0, .int .i64 x1] Try.func38 (by kernel_rfl) Try.ntmps38 (Nat.le_of_ble_eq_true rfl) fun b cs a0 hbf hbk hs0 => ?_
  have hm0 := Mem.le.refl m
  have hQ : ∀ {r : (Int × Bool)}, Q r → f38_YR z m G (f38_post z m G  Q)  r := by intro r hq m' w'  hm' hst' hf0_0; exact ⟨r,  W.St.less hm' hst', rfl, hf0_0, hq⟩
  unfold f38 at hr
  refine to_seq (sub [0] f38_c) (sub [1] f38_c) (by kernel_rfl) ?_
  refine to_nd 0 2 (rops (sub [0] f38_c)) (by kernel_rfl) (by kernel_rfl) ?_
  refine nd_q (c := 0) 2 [0, 1] hs0 [(0, .slice a_x0 x0.length c_x0), (1, .int .i64 x1)] (by kernel_rfl) fun a1 hs2 => ?_
  refine nd_done ?_
  refine to_seq (sub [1, 0] f38_c) (sub [1, 1] f38_c) (by kernel_rfl) ?_
  refine to_nd 1 3 (rops (sub [1, 0] f38_c)) (by kernel_rfl) (by kernel_rfl) ?_
  refine nd_q (c := 0) 3 [0, 1, 6] hs2 [(0, .slice a_x0 x0.length c_x0), (1, .int .i64 x1), (6, .int .i64 (x0.length : Int))] (by kernel_rfl) fun a3 hs4 => ?_
  refine nd_done ?_
  refine to_seq (sub [1, 1, 0] f38_c) (sub [1, 1, 1] f38_c) (by kernel_rfl) ?_
  refine to_nd 2 3 (rops (sub [1, 1, 0] f38_c)) (by kernel_rfl) (by kernel_rfl) ?_
  refine nd_q (c := 0) 3 [0, 1, 6, 7, 8] hs4 [(0, .slice a_x0 x0.length c_x0), (1, .int .i64 x1), (6, .int .i64 (x0.length : Int)), (7, .int .i64 (0 : Int)), (8, .int .i64 (x0.length : Int))] (by kernel_rfl) fun a5 hs6 => ?_
  refine nd_done ?_
  refine to_seq (sub [1, 1, 1, 0] f38_c) (sub [1, 1, 1, 1] f38_c) (by kernel_rfl) ?_
  refine to_block 0 (sub [1, 1, 1, 0, 0] f38_c) (by kernel_rfl) ?_
  refine to_loop (sub [1, 1, 1, 0, 0, 0] f38_c) (by kernel_rfl) ?_
  have hs7 := hs6.kept [0, 1, 6, 7, 8] [(0, .slice a_x0 x0.length c_x0), (1, .int .i64 x1), (6, .int .i64 (x0.length : Int)), (7, .int .i64 (0 : Int)), (8, .int .i64 (x0.length : Int))] (by kernel_rfl)
  refine f38_l1_ok hbf hbk h_x0 h_x1 (len_in h_x0.len)  ?_ hr (Mem.le.refl _) hst hs7 (inr_of (by kernel_rfl)) (len_in h_x0.len)
  intro i'7e8 hr
  intro m9 w11 a13  hm10 hst12 hs14 h_i'7e8
  refine to_seq (sub [1, 1, 1, 1, 0] f38_c) (sub [1, 1, 1, 1, 1] f38_c) (by kernel_rfl) ?_
  refine to_nd 8 25 (rops (sub [1, 1, 1, 1, 0] f38_c)) (by kernel_rfl) (by kernel_rfl) ?_
  refine nd_q (c := 20) 5 [0, 1, 7, 31, 35] hs14 [(0, .slice a_x0 x0.length c_x0), (1, .int .i64 x1), (7, .int .i64 i'7e8), (31, .int .i64 i'7e8), (35, .bool (decide (i'7e8 < (x0.length : Int))))] (by kernel_rfl) fun a15 hs16 => ?_
  by_cases hb17 : i'7e8 < (x0.length : Int)
  rotate_left
  · rw [if_neg hb17] at hr
    rw [(decide_eq_false hb17)] at hs16
    refine nd_q (c := 0) 20 [4, 5] hs16 [(4, .int .i64 i'7e8), (5, .bool false)] (by kernel_rfl) fun a60 hs61 => ?_
    refine nd_done ?_
    exact to_ret (v := .tuple #[.int .i64 i'7e8, .bool false]) (by kernel_rfl) hbf Try.func38 hbk hs61 (by kernel_rfl) (hQ hr hm10 hst12 h_i'7e8)
  rw [if_pos hb17] at hr
  rw [(decide_eq_true hb17)] at hs16
  refine nd_q (c := 18) 2 [0, 1, 7, 31, 35, 36, 37] hs16 [(0, .slice a_x0 x0.length c_x0), (1, .int .i64 x1), (7, .int .i64 i'7e8), (31, .int .i64 i'7e8), (35, .bool true), (36, .slice a_x0 x0.length c_x0), (37, .int .i64 i'7e8)] (by kernel_rfl) fun a18 hs19 => ?_
  obtain ⟨x20, hx20, hr⟩ := ofO_el hr
  obtain ⟨ad20, c20, hA20, hR20, hX20⟩ := Row.ix (h_x0.mono hm10).1 hx20
  obtain ⟨he20, hf20⟩ := kInt_open hR20
  have hB20 := hA20.conv he20
  refine nd_v (i := 7) (c := 17) 38 (.pointer (some ad20)) hs19 (by kernel_rfl) (hX20 (P := Try.prog) (w := w11) (by kernel_rfl)) fun a21 hs22 => ?_
  refine nd_v (i := 8) (c := 16) 39 (.int .i64 x20) hs22 (by kernel_rfl) (ld1_run (P := Try.prog) (ad := ad20) (by kernel_rfl) (hB20.cell0 hst12 (Nat.le_of_ble_eq_true rfl))) fun a23 hs24 => ?_
  refine nd_q (c := 13) 3 [0, 1, 7, 31, 35, 42] hs24 [(0, .slice a_x0 x0.length c_x0), (1, .int .i64 x1), (7, .int .i64 i'7e8), (31, .int .i64 i'7e8), (35, .bool true), (42, .bool (x20 == x1))] (by kernel_rfl) fun a25 hs26 => ?_
  by_cases hb27 : x20 = x1
  · rw [if_pos hb27] at hr
    rw [(eqT hb27)] at hs26
    refine nd_q (c := 0) 13 [4, 5] hs26 [(4, .int .i64 i'7e8), (5, .bool true)] (by kernel_rfl) fun a28 hs29 => ?_
    refine nd_done ?_
    exact to_ret (v := .tuple #[.int .i64 i'7e8, .bool true]) (by kernel_rfl) hbf Try.func38 hbk hs29 (by kernel_rfl) (hQ hr hm10 hst12 h_i'7e8)
  rw [if_neg hb27] at hr
  rw [(eqF hb27)] at hs26
  refine nd_q (c := 11) 2 [1, 31, 35, 42, 43, 44] hs26 [(1, .int .i64 x1), (31, .int .i64 i'7e8), (35, .bool true), (42, .bool false), (43, .slice a_x0 x0.length c_x0), (44, .int .i64 i'7e8)] (by kernel_rfl) fun a30 hs31 => ?_
  obtain ⟨x32, hx32, hr⟩ := ofO_el hr
  obtain ⟨ad32, c32, hA32, hR32, hX32⟩ := Row.ix (h_x0.mono hm10).1 hx32
  obtain ⟨he32, hf32⟩ := kInt_open hR32
  have hB32 := hA32.conv he32
  refine nd_v (i := 14) (c := 10) 45 (.pointer (some ad32)) hs31 (by kernel_rfl) (hX32 (P := Try.prog) (w := w11) (by kernel_rfl)) fun a33 hs34 => ?_
  refine nd_v (i := 15) (c := 9) 46 (.int .i64 x32) hs34 (by kernel_rfl) (ld1_run (P := Try.prog) (ad := ad32) (by kernel_rfl) (hB32.cell0 hst12 (Nat.le_of_ble_eq_true rfl))) fun a35 hs36 => ?_
  refine nd_op (op_call (some 47) hs36 (by kernel_rfl) (by kernel_rfl) ((f41_ok hst12 hf32 hr).mono ?_))
  rintro _ w38 ⟨r37, hst41, rfl, hr⟩
  revert hr; intro hr
  refine ⟨_, rfl, fun a39 hs40 => ?_⟩
  refine nd_q (c := 7) 1 [1, 31, 35, 42, 48] hs40 [(1, .int .i64 x1), (31, .int .i64 i'7e8), (35, .bool true), (42, .bool false), (48, .bool r37)] (by kernel_rfl) fun a44 hs45 => ?_
  by_cases hb46 : r37 = true
  rotate_left
  · rw [if_neg hb46] at hr
    rw [(bF hb46)] at hs45
    refine nd_q (c := 0) 7 [4, 5] hs45 [(4, .int .i64 i'7e8), (5, .bool false)] (by kernel_rfl) fun a58 hs59 => ?_
    refine nd_done ?_
    exact to_ret (v := .tuple #[.int .i64 i'7e8, .bool false]) (by kernel_rfl) hbf Try.func38 hbk hs59 (by kernel_rfl) (hQ hr hm10 hst41 h_i'7e8)
  rw [if_pos hb46] at hr
  rw [(bT hb46)] at hs45
  refine nd_q (c := 6) 1 [31, 35, 42, 48, 49] hs45 [(31, .int .i64 i'7e8), (35, .bool true), (42, .bool false), (48, .bool true), (49, .int .i64 x1)] (by kernel_rfl) fun a47 hs48 => ?_
  refine nd_op (op_call (some 50) hs48 (by kernel_rfl) (by kernel_rfl) ((f41_ok hst41 h_x1 hr).mono ?_))
  rintro _ w50 ⟨r49, hst53, rfl, hr⟩
  revert hr; intro hr
  refine ⟨_, rfl, fun a51 hs52 => ?_⟩
  refine nd_q (c := 0) 5 [4, 5] hs52 [(4, .int .i64 i'7e8), (5, .bool r49)] (by kernel_rfl) fun a56 hs57 => ?_
  refine nd_done ?_
  exact to_ret (v := .tuple #[.int .i64 i'7e8, .bool r49]) (by kernel_rfl) hbf Try.func38 hbk hs57 (by kernel_rfl) (hQ hr hm10 hst53 h_i'7e8)
/-! ### 39: slices.Delete[[]int,int] -/
noncomputable def f39_c : Code := codeOf Try.f39
def f39_post (z : Base) (m : Mem) (G : List Grp)  (Q : (List Int) → Prop) : Ending → World → Prop := fun e w' => ∃ (r : (List Int)) (a0_0 : Option Addr) (c0_0 : Nat) (I0_0 : Grp), W.St z w' m (I0_0 :: G) ∧ e = .returned (.slice a0_0 r.length c0_0) ∧ OwnSl (kInt .i64) 8 3 m a0_0 c0_0 I0_0 r ∧ Q r
def f39_YR (z : Base) (m0 : Mem) (G : List Grp) (R : Ending → World → Prop)  (r : (List Int)) : Prop := ∀ {m : Mem} {w : World} {a0_0 : Option Addr} {c0_0 : Nat} {I0_0 : Grp}, m0.le m → W.St z w m (I0_0 :: G) → (OwnSl (kInt .i64) 8 3 m a0_0 c0_0 I0_0 r) →  R (.returned (.slice a0_0 r.length c0_0)) w
theorem f39_YR_mono {z : Base} {m0 m1 : Mem} {G : List Grp} {R : Ending → World → Prop}  {r : (List Int)} (hm : m0.le m1) (h : f39_YR z m0 G R  r) : f39_YR z m1 G R  r := by
  intro m w a0_0 c0_0 I0_0 hm'
  exact h (hm.trans hm')
def f39  (x0 : (List Int)) (x1 : Int) (x2 : Int) : M (List Int) := fun Q => ofO (cut3 x0 x1 x2 (x0.length : Int)) fun r5 => if x1 = x2 then (Q x0) else (ofO (cut x0 0 x1) fun r26 => ofO (cut x0 x2 (x0.length : Int)) fun r36 => ofO (appSelf x2 r26 r36) fun r42 => Q r42)
theorem f39_ok  {z : Base} {w : World} {m : Mem} {G : List Grp} {a_x0 : Option Addr} {c_x0 : Nat} {I_x0 : Grp} {x0 : (List Int)} {x1 : Int} {x2 : Int} {Q : (List Int) → Prop} (hst : W.St z w m (I_x0 :: G)) (h_x0 : OwnSl (kInt .i64) 8 3 m a_x0 c_x0 I_x0 x0) (h_x1 : InR .i64 x1) (h_x2 : InR .i64 x2) (hr : f39  x0 x1 x2 Q) : Calls Try.prog 39 #[.slice a_x0 x0.length c_x0, .int .i64 x1, .int .i64 x2] w (f39_post z m G  Q) := by
  refine calls_begin (c := f39_c) (n := 33) [.slice a_x0 x0.length c_x0, .int .i64 x1, .int .i64 x2] Try.func39 (by kernel_rfl) Try.ntmps39 (Nat.le_of_ble_eq_true rfl) fun b cs a0 hbf hbk hs0 => ?_
  have hm0 := Mem.le.refl m
  have hQ : ∀ {r : (List Int)}, Q r → f39_YR z m G (f39_post z m G  Q)  r := by intro r hq m' w' a0_0 c0_0 I0_0 hm' hst' hf0_0; exact ⟨r, a0_0, c0_0, I0_0,  W.St.less hm' hst', rfl, (OwnSl.flat flat_int hf0_0), hq⟩
  unfold f39 at hr
  refine to_seq (sub [0] f39_c) (sub [1] f39_c) (by kernel_rfl) ?_
  refine to_nd 0 1 (rops (sub [0] f39_c)) (by kernel_rfl) (by kernel_rfl) ?_
  refine nd_q (c := 0) 1 [0, 1, 2] hs0 [(0, .slice a_x0 x0.length c_x0), (1, .int .i64 x1), (2, .int .i64 x2)] (by kernel_rfl) fun a1 hs2 => ?_
  refine nd_done ?_
  refine to_seq (sub [1, 0] f39_c) (sub [1, 1] f39_c) (by kernel_rfl) ?_
  refine to_nd 1 6 (rops (sub [1, 0] f39_c)) (by kernel_rfl) (by kernel_rfl) ?_
  refine nd_q (c := 1) 5 [0, 1, 2, 8, 9, 10, 12] hs2 [(0, .slice a_x0 x0.length c_x0), (1, .int .i64 x1), (2, .int .i64 x2), (8, .slice a_x0 x0.length c_x0), (9, .int .i64 x1), (10, .int .i64 x2), (12, .int .i64 (x0.length : Int))] (by kernel_rfl) fun a3 hs4 => ?_
  obtain ⟨r5, hcq6, hr⟩ := ofO_el hr
  refine nd_v (i := 5) (c := 0) 13 (.slice (cutA a_x0 (Int.toNat (x0.length : Int)) x1 1) r5.length (Int.toNat (x0.length : Int) - Int.toNat x1)) hs4 (by kernel_rfl) (own_cut3 h_x0 hcq6 (by kernel_rfl)) fun a7 hs8 => ?_
  refine nd_done ?_
  refine to_seq (sub [1, 1, 0] f39_c) (sub [1, 1, 1] f39_c) (by kernel_rfl) ?_
  refine to_seq (sub [1, 1, 0, 0] f39_c) (sub [1, 1, 0, 1] f39_c) (by kernel_rfl) ?_
  refine to_nd 2 3 (rops (sub [1, 1, 0, 0] f39_c)) (by kernel_rfl) (by kernel_rfl) ?_
  refine nd_q (c := 0) 3 [0, 1, 2, 16] hs8 [(0, .slice a_x0 x0.length c_x0), (1, .int .i64 x1), (2, .int .i64 x2), (16, .bool (x1 == x2))] (by kernel_rfl) fun a9 hs10 => ?_
  refine nd_done ?_
  by_cases hb11 : x1 = x2
  · rw [if_pos hb11] at hr
    rw [(eqT hb11)] at hs10
    refine to_then (.tmp 16) (sub [1, 1, 0, 1, 0] f39_c) (sub [1, 1, 0, 1, 1] f39_c) (by kernel_rfl) hs10 (by kernel_rfl) ?_
    refine to_seq (sub [1, 1, 0, 1, 0, 0] f39_c) (sub [1, 1, 0, 1, 0, 1] f39_c) (by kernel_rfl) ?_
    refine to_nd 3 2 (rops (sub [1, 1, 0, 1, 0, 0] f39_c)) (by kernel_rfl) (by kernel_rfl) ?_
    refine nd_q (c := 0) 2 [6] hs10 [(6, .slice a_x0 x0.length c_x0)] (by kernel_rfl) fun a12 hs13 => ?_
    refine nd_done ?_
    exact to_ret (v := .slice a_x0 x0.length c_x0) (by kernel_rfl) hbf Try.func39 hbk hs13 (by kernel_rfl) (hQ hr (Mem.le.refl _) hst h_x0)
  rw [if_neg hb11] at hr
  rw [(eqF hb11)] at hs10
  refine to_else (.tmp 16) (sub [1, 1, 0, 1, 0] f39_c) (sub [1, 1, 0, 1, 1] f39_c) (by kernel_rfl) hs10 (by kernel_rfl) ?_
  refine to_skip (by kernel_rfl) ?_
  refine to_seq (sub [1, 1, 1, 0] f39_c) (sub [1, 1, 1, 1] f39_c) (by kernel_rfl) ?_
  refine to_nd 4 3 (rops (sub [1, 1, 1, 0] f39_c)) (by kernel_rfl) (by kernel_rfl) ?_
  refine nd_q (c := 0) 3 [0, 1, 2, 7] hs10 [(0, .slice a_x0 x0.length c_x0), (1, .int .i64 x1), (2, .int .i64 x2), (7, .int .i64 (x0.length : Int))] (by kernel_rfl) fun a14 hs15 => ?_
  refine nd_done ?_
  refine to_seq (sub [1, 1, 1, 1, 0] f39_c) (sub [1, 1, 1, 1, 1] f39_c) (by kernel_rfl) ?_
  have hs16 := hs15.kept [0, 1, 2, 7] [(0, .slice a_x0 x0.length c_x0), (1, .int .i64 x1), (2, .int .i64 x2), (7, .int .i64 (x0.length : Int))] (by kernel_rfl)
  refine to_dr 5 8 (rops (sub [1, 1, 1, 1, 0] f39_c)) (by kernel_rfl) (by kernel_rfl) (by kernel_rfl) [6] (fun w => Go.Proofs.Ytcnlbnccghjeaaa.W.St z w m G) (fun _ w => Go.Proofs.Ytcnlbnccghjeaaa.W.St z w m (I_x0 :: G)) fun hd17 => ?_
  have hst19 := hst.drawn (w.drawn + 1)
  generalize hw20 : ({ w with drawn := w.drawn + 1 } : World) = w18 at hst19 ⊢
  clear hw20
  refine dr_q (fuel := 6) [0, 1] [0, 2, 7, 20, 21] [] hs16 hd17 ⟨hst19.drop1, fun _ _ _ => hst19⟩ (by kernel_rfl) (by kernel_rfl) ([(21, .int .i64 x1), (20, .slice a_x0 x0.length c_x0)] ++ [(0, .slice a_x0 x0.length c_x0), (1, .int .i64 x1), (2, .int .i64 x2), (7, .int .i64 (x0.length : Int))]) [(0, .slice a_x0 x0.length c_x0), (2, .int .i64 x2), (7, .int .i64 (x0.length : Int)), (20, .slice a_x0 x0.length c_x0), (21, .int .i64 x1)] (by kernel_rfl) (by kernel_rfl) (fun _ hx => by cases hx) (fun w hT _ => by kernel_rfl) fun a21 hs22 hd23 hS24 => ?_
  obtain ⟨r26, hcq27, hr⟩ := ofO_el hr
  obtain ⟨hfq27, hXq27⟩ := own_pre h_x0 hcq27
  refine dr_vp (fuel := 5) 2 22 (.slice a_x0 r26.length c_x0) [] hs22 hd23 ⟨hst19.drop1, fun _ _ _ => hst19⟩ (by kernel_rfl) (by kernel_rfl) (by kernel_rfl) (fun _ hx => by cases hx) (by kernel_rfl) (fun w hT hF => hXq27 (P := Try.prog) (w := w) (by kernel_rfl)) fun a28 hs29 hd25 hS30 => ?_
  refine dr_q (fuel := 3) [3, 4] [0, 7, 22, 23, 24] [] hs29 hd25 ⟨hst19.drop1, fun _ _ _ => hst19⟩ (by kernel_rfl) (by kernel_rfl) ([(24, .int .i64 x2), (23, .slice a_x0 x0.length c_x0)] ++ ((22, .slice a_x0 r26.length c_x0) :: [(0, .slice a_x0 x0.length c_x0), (2, .int .i64 x2), (7, .int .i64 (x0.length : Int)), (20, .slice a_x0 x0.length c_x0), (21, .int .i64 x1)])) [(0, .slice a_x0 x0.length c_x0), (7, .int .i64 (x0.length : Int)), (22, .slice a_x0 r26.length c_x0), (23, .slice a_x0 x0.length c_x0), (24, .int .i64 x2)] (by kernel_rfl) (by kernel_rfl) (fun _ hx => by cases hx) (fun w hT _ => by kernel_rfl) fun a31 hs32 hd33 hS34 => ?_
  obtain ⟨r36, hcq37, hr⟩ := ofO_el hr
  refine dr_vp (fuel := 2) 5 25 (.slice (cutA a_x0 c_x0 x2 1) r36.length (c_x0 - (x2).toNat)) [] hs32 hd33 ⟨hst19.drop1, fun _ _ _ => hst19⟩ (by kernel_rfl) (by kernel_rfl) (by kernel_rfl) (fun _ hx => by cases hx) (by kernel_rfl) (fun w hT hF => osub_run (P := Try.prog) (w := w) h_x0 hcq37 (by kernel_rfl)) fun a38 hs39 hd35 hS40 => ?_
  obtain ⟨r42, hcq43, hr⟩ := ofO_el hr
  obtain ⟨Iq43, wq43, hxq43, hstq43, hoq43, hlq43, hkq43⟩ := own_append_self (P := Try.prog) (o := opAt (rops (sub [1, 1, 1, 1, 0] f39_c)) 6) (ρ := Env.rho hs39.env) (by kernel_rfl) hst19 h_x0 hcq27 hcq37 hcq43
  refine dr_op (i := 6) hd35 (by kernel_rfl) fun hd41 => op_v (some 26) (.slice a_x0 r42.length c_x0) hs39 (by kernel_rfl) hxq43 fun a44 hs45 => ?_
  refine ⟨SE_hit hstq43.drop1 rfl, reset_hit (es' := []) (T' := (fun w => Go.Proofs.Ytcnlbnccghjeaaa.W.St z w m (Iq43 :: G))) (F' := (fun _ _ => True)) rfl (fun w hT => ?_) ?_⟩
  · exact hT.drop1
  have hs46 := hs45.kept [7, 24, 26] [(7, .int .i64 (x0.length : Int)), (24, .int .i64 x2), (26, .slice a_x0 r42.length c_x0)] (by kernel_rfl)
  refine dr_q (fuel := 0) [7] [0, 7] [] hs46 hd41 ⟨hstq43, fun _ hx => by cases hx⟩ (by kernel_rfl) (by kernel_rfl) ([(0, .slice a_x0 r42.length c_x0)] ++ [(7, .int .i64 (x0.length : Int)), (24, .int .i64 x2), (26, .slice a_x0 r42.length c_x0)]) [(0, .slice a_x0 r42.length c_x0), (7, .int .i64 (x0.length : Int))] (by kernel_rfl) (by kernel_rfl) (fun _ hx => by cases hx) (fun w hT _ => by kernel_rfl) fun a47 hs48 hd49 hS50 => ?_
  refine dr_done (by kernel_rfl) ?_
  refine to_seq (sub [1, 1, 1, 1, 1, 0] f39_c) (sub [1, 1, 1, 1, 1, 1] f39_c) (by kernel_rfl) ?_
  refine to_nd 6 6 (rops (sub [1, 1, 1, 1, 1, 0] f39_c)) (by kernel_rfl) (by kernel_rfl) ?_
  refine nd_q (c := 2) 4 [0, 27, 29, 30] hs48 [(0, .slice a_x0 r42.length c_x0), (27, .slice a_x0 r42.length c_x0), (29, .int .i64 (r42.length : Int)), (30, .int .i64 (x0.length : Int))] (by kernel_rfl) fun a51 hs52 => ?_
  refine nd_v (i := 4) (c := 1) 31 (.slice (cutA a_x0 c_x0 (r42.length : Int) 1) (x0.length - r42.length) (c_x0 - r42.length)) hs52 (by kernel_rfl) (tail_run hoq43 hlq43 hkq43 (by kernel_rfl)) fun a55 hs56 => ?_
  obtain ⟨Iq57, wq57, hxq57, hstq57, hoq57⟩ := own_clear_tail (P := Try.prog) (o := opAt (rops (sub [1, 1, 1, 1, 1, 0] f39_c)) 5) (ρ := Env.rho hs56.env) (zl := [.int .i64 (0 : Int)]) (by kernel_rfl) hstq43 hoq43 (kInt_mk (inr_of (by kernel_rfl))) rfl hkq43
  refine nd_op (op_v none (.tuple #[]) hs56 (by kernel_rfl) hxq57 fun a58 hs59 => ?_)
  refine nd_done ?_
  refine to_seq (sub [1, 1, 1, 1, 1, 1, 0] f39_c) (sub [1, 1, 1, 1, 1, 1, 1] f39_c) (by kernel_rfl) ?_
  refine to_nd 7 2 (rops (sub [1, 1, 1, 1, 1, 1, 0] f39_c)) (by kernel_rfl) (by kernel_rfl) ?_
  refine nd_q (c := 0) 2 [6] hs59 [(6, .slice a_x0 r42.length c_x0)] (by kernel_rfl) fun a60 hs61 => ?_
  refine nd_done ?_
  exact to_ret (v := .slice a_x0 r42.length c_x0) (by kernel_rfl) hbf Try.func39 hbk hs61 (by kernel_rfl) (hQ hr (Mem.le.refl _) hstq57 hoq57)
end Go.Proofs.Ytcnlbnccghjeaaa.W
