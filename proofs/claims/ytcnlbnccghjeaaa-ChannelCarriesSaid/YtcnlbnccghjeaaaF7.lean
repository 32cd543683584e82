/- Printed by gen2.py: Go functions as Lean functions, and the proofs that the calls come to them. Conditions: none. -/
import Derived.Test.YtcnlbnccghjeaaaF6
set_option linter.unusedVariables false
set_option linter.unusedSimpArgs false
set_option maxRecDepth 100000
namespace Go.Proofs.Ytcnlbnccghjeaaa.W
open Go

/-! ### 18: (*salchow/salchowref50.Channel).Pending -/
noncomputable def f18_c : Code := codeOf Try.f18
def f18_post (z : Base) (m : Mem) (G : List Grp)  (Q : (List Int) → Prop) : Ending → World → Prop := fun e w' => ∃ (r : (List Int)) (a0_0 : Option Addr) (c0_0 : Nat) (I0_0 : Grp), W.St z w' m (I0_0 :: G) ∧ e = .returned (.slice a0_0 r.length c0_0) ∧ OwnSl (kInt .i64) 8 3 m a0_0 c0_0 I0_0 r ∧ Q r
def f18_YR (z : Base) (m0 : Mem) (G : List Grp) (R : Ending → World → Prop)  (r : (List Int)) : Prop := ∀ {m : Mem} {w : World} {a0_0 : Option Addr} {c0_0 : Nat} {I0_0 : Grp}, m0.le m → W.St z w m (I0_0 :: G) → (OwnSl (kInt .i64) 8 3 m a0_0 c0_0 I0_0 r) →  R (.returned (.slice a0_0 r.length c0_0)) w
theorem f18_YR_mono {z : Base} {m0 m1 : Mem} {G : List Grp} {R : Ending → World → Prop}  {r : (List Int)} (hm : m0.le m1) (h : f18_YR z m0 G R  r) : f18_YR z m1 G R  r := by
  intro m w a0_0 c0_0 I0_0 hm'
  exact h (hm.trans hm')
def f18_l1_Y (z : Base) (m0 : Mem) (G : List Grp) (b : Frame) (cs : List Frame) (R : Ending → World → Prop) (ad_c'0 : Addr) (a_c'0_1 : Option Addr) (c_c'0_1 : Nat) (a_c'0_2 : Option Addr) (c_c'0_2 : Nat) (c'0 : S47) (out'3 : (List Int)) (i'4 : Int) : Prop := ∀ {m : Mem} {w : World} {a : Act} {a_out'3 : Option Addr} {c_out'3 : Nat} {I_out'3 : Grp}, m0.le m → W.St z w m (I_out'3 :: G) → Has 26 a [(0, .pointer (some ad_c'0)), (3, .slice a_out'3 out'3.length c_out'3), (4, .int .i64 i'4)] → (OwnSl (kInt .i64) 8 3 m a_out'3 c_out'3 I_out'3 out'3) → (InR .i64 i'4) → Reach Try.prog b cs R [.code (sub [1, 1, 0, 1, 0, 0] f18_c), .inLoop (sub [1, 1, 0, 1, 0, 0] f18_c), .inBlock 0, .code (sub [1, 1, 1] f18_c)] a w
def f18_l1_Yk1 (z : Base) (m0 : Mem) (G : List Grp) (b : Frame) (cs : List Frame) (R : Ending → World → Prop) (ad_c'0 : Addr) (a_c'0_1 : Option Addr) (c_c'0_1 : Nat) (a_c'0_2 : Option Addr) (c_c'0_2 : Nat) (c'0 : S47) (out'3 : (List Int)) : Prop := ∀ {m : Mem} {w : World} {a : Act} {a_out'3 : Option Addr} {c_out'3 : Nat} {I_out'3 : Grp}, m0.le m → W.St z w m (I_out'3 :: G) → Has 26 a [(3, .slice a_out'3 out'3.length c_out'3)] → (OwnSl (kInt .i64) 8 3 m a_out'3 c_out'3 I_out'3 out'3) → Reach Try.prog b cs R [.code (sub [1, 1, 1] f18_c)] a w
def f18_l1_b (c'0 : S47) (k1 : (List Int) → Prop) (X : (List Int) → Int → Prop) (out'3 : (List Int)) (i'4 : Int) : Prop := if i'4 < (c'0.f2.length : Int) then (ofO (ix c'0.f2 i'4) fun x14 => ofO (app 8 out'3 ([x14.f0])) fun r28 => X r28 (w64 (i'4 + (1 : Int)))) else (k1 out'3)
def f18_l1 (c'0 : S47) (k1 : (List Int) → Prop) (out'3 : (List Int)) (i'4 : Int) : Prop := ∀ X : (List Int) → Int → Prop, (∀ {out'3 : (List Int)} {i'4 : Int}, f18_l1_b c'0 k1 X out'3 i'4 → X out'3 i'4) → X out'3 i'4
theorem f18_l1_ok {z : Base} {m0 : Mem} {G : List Grp} {b : Frame} {cs : List Frame} {R : Ending → World → Prop} {ad_c'0 : Addr} {a_c'0_1 : Option Addr} {c_c'0_1 : Nat} {a_c'0_2 : Option Addr} {c_c'0_2 : Nat} {c'0 : S47} {k1 : (List Int) → Prop}  (hbf : b.fn = 18) (hbk : b.kind = .normal) (hA_c'0 : At m0 ad_c'0 6 (cells [.int .i64 c'0.f0, .slice a_c'0_1 c'0.f1.length c_c'0_1, .slice a_c'0_2 c'0.f2.length c_c'0_2, .int .i64 c'0.f3.f0, .int .i64 c'0.f3.f1, .int .i64 c'0.f3.f2])) (h_c'0_0 : InR .i64 c'0.f0) (h_c'0_1 : Sl kBool 1 m0 a_c'0_1 c_c'0_1 c'0.f1) (h_c'0_2 : Sl k67 40 m0 a_c'0_2 c_c'0_2 c'0.f2) (h_c'0_3 : InR .i64 c'0.f3.f0) (h_c'0_4 : InR .i64 c'0.f3.f1) (h_c'0_5 : InR .i64 c'0.f3.f2)  (hk1 : ∀ {out'3 : (List Int)}, k1 out'3 → f18_l1_Yk1 z m0 G b cs R ad_c'0 a_c'0_1 c_c'0_1 a_c'0_2 c_c'0_2 c'0 out'3) : ∀ {out'3 : (List Int)} {i'4 : Int}, f18_l1 c'0 k1 out'3 i'4 → f18_l1_Y z m0 G b cs R ad_c'0 a_c'0_1 c_c'0_1 a_c'0_2 c_c'0_2 c'0 out'3 i'4 := by
  intro out'3 i'4 hr
  refine hr (f18_l1_Y z m0 G b cs R ad_c'0 a_c'0_1 c_c'0_1 a_c'0_2 c_c'0_2 c'0) ?_
  intro out'3 i'4 hr m w a0 a_out'3 c_out'3 I_out'3 hm0 hst hs0 h_out'3 h_i'4
  have hX : ∀ {out'3 : (List Int)} {i'4 : Int}, f18_l1_Y z m0 G b cs R ad_c'0 a_c'0_1 c_c'0_1 a_c'0_2 c_c'0_2 c'0 out'3 i'4 → f18_l1_Y z m0 G b cs R ad_c'0 a_c'0_1 c_c'0_1 a_c'0_2 c_c'0_2 c'0 out'3 i'4 := fun h => h
  unfold f18_l1_b at hr
  refine to_seq (sub [1, 1, 0, 1, 0, 0, 0] f18_c) (sub [1, 1, 0, 1, 0, 0, 1] f18_c) (by kernel_rfl) ?_
  refine to_seq (sub [1, 1, 0, 1, 0, 0, 0, 0] f18_c) (sub [1, 1, 0, 1, 0, 0, 0, 1] f18_c) (by kernel_rfl) ?_
  refine to_nd 3 7 (rops (sub [1, 1, 0, 1, 0, 0, 0, 0] f18_c)) (by kernel_rfl) (by kernel_rfl) ?_
  refine nd_q (c := 3) 4 [0, 3, 4, 5, 8] hs0 [(0, .pointer (some ad_c'0)), (3, .slice a_out'3 out'3.length c_out'3), (4, .int .i64 i'4), (5, .int .i64 i'4), (8, .pointer (some ⟨ad_c'0.block, ad_c'0.off + 2, none⟩))] (by kernel_rfl) fun a1 hs2 => ?_
  refine nd_v (i := 4) (c := 2) 9 (.slice a_c'0_2 c'0.f2.length c_c'0_2) hs2 (by kernel_rfl) (ld1_run (P := Try.prog) (ad := ⟨ad_c'0.block, ad_c'0.off + 2, none⟩) (by kernel_rfl) ((hA_c'0.mono hm0).cell hst (j := 2) (Nat.le_of_ble_eq_true rfl))) fun a3 hs4 => ?_
  refine nd_q (c := 0) 2 [0, 3, 4, 11] hs4 [(0, .pointer (some ad_c'0)), (3, .slice a_out'3 out'3.length c_out'3), (4, .int .i64 i'4), (11, .bool (decide (i'4 < (c'0.f2.length : Int))))] (by kernel_rfl) fun a5 hs6 => ?_
  refine nd_done ?_
  by_cases hb7 : i'4 < (c'0.f2.length : Int)
  rotate_left
  · rw [if_neg hb7] at hr
    rw [(decide_eq_false hb7)] at hs6
    refine to_else (.tmp 11) (sub [1, 1, 0, 1, 0, 0, 0, 1, 0] f18_c) (sub [1, 1, 0, 1, 0, 0, 0, 1, 1] f18_c) (by kernel_rfl) hs6 (by kernel_rfl) ?_
    refine to_exit 0 (by kernel_rfl) [.code (sub [1, 1, 1] f18_c)] rfl ?_
    have hs39 := hs6.kept [3] [(3, .slice a_out'3 out'3.length c_out'3)] (by kernel_rfl)
    exact hk1 hr hm0 hst hs39 h_out'3
  rw [if_pos hb7] at hr
  rw [(decide_eq_true hb7)] at hs6
  refine to_then (.tmp 11) (sub [1, 1, 0, 1, 0, 0, 0, 1, 0] f18_c) (sub [1, 1, 0, 1, 0, 0, 0, 1, 1] f18_c) (by kernel_rfl) hs6 (by kernel_rfl) ?_
  refine to_skip (by kernel_rfl) ?_
  refine to_seq (sub [1, 1, 0, 1, 0, 0, 1, 0] f18_c) (sub [1, 1, 0, 1, 0, 0, 1, 1] f18_c) (by kernel_rfl) ?_
  refine to_block 1 (sub [1, 1, 0, 1, 0, 0, 1, 0, 0] f18_c) (by kernel_rfl) ?_
  refine to_nd 5 12 (rops (sub [1, 1, 0, 1, 0, 0, 1, 0, 0] f18_c)) (by kernel_rfl) (by kernel_rfl) ?_
  refine nd_q (c := 8) 4 [0, 3, 4, 14, 17] hs6 [(0, .pointer (some ad_c'0)), (3, .slice a_out'3 out'3.length c_out'3), (4, .int .i64 i'4), (14, .slice a_out'3 out'3.length c_out'3), (17, .pointer (some ⟨ad_c'0.block, ad_c'0.off + 2, none⟩))] (by kernel_rfl) fun a8 hs9 => ?_
  refine nd_v (i := 4) (c := 7) 18 (.slice a_c'0_2 c'0.f2.length c_c'0_2) hs9 (by kernel_rfl) (ld1_run (P := Try.prog) (ad := ⟨ad_c'0.block, ad_c'0.off + 2, none⟩) (by kernel_rfl) ((hA_c'0.mono hm0).cell hst (j := 2) (Nat.le_of_ble_eq_true rfl))) fun a10 hs11 => ?_
  refine nd_q (c := 6) 1 [0, 3, 4, 14, 18, 19] hs11 [(0, .pointer (some ad_c'0)), (3, .slice a_out'3 out'3.length c_out'3), (4, .int .i64 i'4), (14, .slice a_out'3 out'3.length c_out'3), (18, .slice a_c'0_2 c'0.f2.length c_c'0_2), (19, .int .i64 i'4)] (by kernel_rfl) fun a12 hs13 => ?_
  obtain ⟨x14, hx14, hr⟩ := ofO_el hr
  obtain ⟨ad14, c14, hA14, hR14, hX14⟩ := Row.ix (h_c'0_2.mono hm0).1 hx14
  obtain ⟨he14, hf14_0, hf14_1, hf14_2, hf14_3⟩ := k67_open hR14
  have hB14 := hA14.conv he14
  refine nd_v (i := 6) (c := 5) 20 (.pointer (some ad14)) hs13 (by kernel_rfl) (hX14 (P := Try.prog) (w := w) (by kernel_rfl)) fun a15 hs16 => ?_
  refine nd_q (c := 4) 1 [0, 3, 4, 14, 21] hs16 [(0, .pointer (some ad_c'0)), (3, .slice a_out'3 out'3.length c_out'3), (4, .int .i64 i'4), (14, .slice a_out'3 out'3.length c_out'3), (21, .pointer (some ad14))] (by kernel_rfl) fun a17 hs18 => ?_
  refine nd_v (i := 8) (c := 3) 22 (.int .i64 x14.f0) hs18 (by kernel_rfl) (ld1_run (P := Try.prog) (ad := ad14) (by kernel_rfl) (hB14.cell0 hst (Nat.le_of_ble_eq_true rfl))) fun a19 hs20 => ?_
  have ho27 : OwnSl (kInt .i64) 8 3 m (some ⟨w.heap.size, 0, none⟩) 1 [(w.heap.size, .cells ([.int .i64 x14.f0]).toArray 3 (0, 0))] [x14.f0] := own_row (n := 1) (RepL.cons (l := [.int .i64 x14.f0]) rfl (kInt_mk hf14_0) RepL.nil) rfl (Nat.le_of_ble_eq_true rfl) (Nat.le_of_ble_eq_true rfl)
  have hst23 := hst.alloc (.cells [.int .i64 x14.f0].toArray 3 (0, 0))
  refine nd_op (op_v (w' := w.alloc (.cells [.int .i64 x14.f0].toArray 3 (0, 0))) (some 23) (.slice (some ⟨w.heap.size, 0, none⟩) 1 1) hs20 (by kernel_rfl) (by kernel_rfl) fun a24 hs25 => ?_)
  generalize w.heap.size = b21 at hst23 hs25 ho27
  generalize w.alloc (.cells [.int .i64 x14.f0].toArray 3 (0, 0)) = w22 at hst23 ⊢
  obtain ⟨r28, hcq29, hr⟩ := ofO_el hr
  have hst30 := W.St.front [_] hst23
  obtain ⟨aq29, cq29, Iq29, wq29, hxq29, hstq29, hoq29⟩ := own_append (P := Try.prog) (o := opAt (rops (sub [1, 1, 0, 1, 0, 0, 1, 0, 0] f18_c)) 10) (ρ := Env.rho hs25.env) (c := 1) (news := [.int .i64 x14.f0]) (by kernel_rfl) hst30 h_out'3 (RepL.cons (l := [.int .i64 x14.f0]) rfl (kInt_mk hf14_0) RepL.nil) (row_cells [_] hst30) (by kernel_rfl) (Nat.le_of_ble_eq_true rfl) hcq29
  refine nd_op (op_v (some 24) (.slice aq29 r28.length cq29) hs25 (by kernel_rfl) hxq29 fun a31 hs32 => ?_)
  refine nd_q (c := 0) 1 [0, 3, 4] hs32 [(0, .pointer (some ad_c'0)), (3, .slice aq29 r28.length cq29), (4, .int .i64 i'4)] (by kernel_rfl) fun a33 hs34 => ?_
  refine nd_done ?_
  refine reach_inBlock ?_
  refine to_nd 4 3 (rops (sub [1, 1, 0, 1, 0, 0, 1, 1] f18_c)) (by kernel_rfl) (by kernel_rfl) ?_
  refine nd_q (c := 0) 3 [0, 3, 4] hs34 [(0, .pointer (some ad_c'0)), (3, .slice aq29 r28.length cq29), (4, .int .i64 (w64 (i'4 + (1 : Int))))] (by kernel_rfl) fun a35 hs36 => ?_
  refine nd_done ?_
  refine reach_inLoop ?_
  have hst37 := W.St.drop [_] hstq29
  have hs38 := hs36.kept [0, 3, 4] [(0, .pointer (some ad_c'0)), (3, .slice aq29 r28.length cq29), (4, .int .i64 (w64 (i'4 + (1 : Int))))] (by kernel_rfl)
  exact hX hr hm0 hst37 hs38 hoq29 (wrap_in .i64 _)
def f18  (x0 : S47) : M (List Int) := fun Q => f18_l1 x0 (fun out'3e9 => Q out'3e9) ([] : List Int) (0 : Int)
theorem f18_ok  {z : Base} {w : World} {m : Mem} {G : List Grp} {ad_x0 : Addr} {a_x0_1 : Option Addr} {c_x0_1 : Nat} {a_x0_2 : Option Addr} {c_x0_2 : Nat} {x0 : S47} {Q : (List Int) → Prop} (hst : W.St z w m (G)) (hA_x0 : At m ad_x0 6 (cells [.int .i64 x0.f0, .slice a_x0_1 x0.f1.length c_x0_1, .slice a_x0_2 x0.f2.length c_x0_2, .int .i64 x0.f3.f0, .int .i64 x0.f3.f1, .int .i64 x0.f3.f2])) (h_x0_0 : InR .i64 x0.f0) (h_x0_1 : Sl kBool 1 m a_x0_1 c_x0_1 x0.f1) (h_x0_2 : Sl k67 40 m a_x0_2 c_x0_2 x0.f2) (h_x0_3 : InR .i64 x0.f3.f0) (h_x0_4 : InR .i64 x0.f3.f1) (h_x0_5 : InR .i64 x0.f3.f2) (hr : f18  x0 Q) : Calls Try.prog 18 #[.pointer (some ad_x0)] w (f18_post z m G  Q) := by
  refine calls_begin (c := f18_c) (n := 26) [.pointer (some ad_x0)] Try.func18 (by kernel_rfl) Try.ntmps18 (Nat.le_of_ble_eq_true rfl) fun b cs a0 hbf hbk hs0 => ?_
  have hm0 := Mem.le.refl m
  have hQ : ∀ {r : (List Int)}, Q r → f18_YR z m G (f18_post z m G  Q)  r := by intro r hq m' w' a0_0 c0_0 I0_0 hm' hst' hf0_0; exact ⟨r, a0_0, c0_0, I0_0,  W.St.less hm' hst', rfl, (OwnSl.flat flat_int hf0_0), hq⟩
  unfold f18 at hr
  refine to_seq (sub [0] f18_c) (sub [1] f18_c) (by kernel_rfl) ?_
  refine to_nd 0 1 (rops (sub [0] f18_c)) (by kernel_rfl) (by kernel_rfl) ?_
  refine nd_q (c := 0) 1 [0] hs0 [(0, .pointer (some ad_x0))] (by kernel_rfl) fun a1 hs2 => ?_
  refine nd_done ?_
  refine to_seq (sub [1, 0] f18_c) (sub [1, 1] f18_c) (by kernel_rfl) ?_
  refine to_nd 1 1 (rops (sub [1, 0] f18_c)) (by kernel_rfl) (by kernel_rfl) ?_
  refine nd_q (c := 0) 1 [0, 3] hs2 [(0, .pointer (some ad_x0)), (3, .slice none 0 0)] (by kernel_rfl) fun a3 hs4 => ?_
  refine nd_done ?_
  refine to_seq (sub [1, 1, 0] f18_c) (sub [1, 1, 1] f18_c) (by kernel_rfl) ?_
  refine to_seq (sub [1, 1, 0, 0] f18_c) (sub [1, 1, 0, 1] f18_c) (by kernel_rfl) ?_
  refine to_nd 2 1 (rops (sub [1, 1, 0, 0] f18_c)) (by kernel_rfl) (by kernel_rfl) ?_
  refine nd_q (c := 0) 1 [0, 3, 4] hs4 [(0, .pointer (some ad_x0)), (3, .slice none 0 0), (4, .int .i64 (0 : Int))] (by kernel_rfl) fun a5 hs6 => ?_
  refine nd_done ?_
  refine to_block 0 (sub [1, 1, 0, 1, 0] f18_c) (by kernel_rfl) ?_
  refine to_loop (sub [1, 1, 0, 1, 0, 0] f18_c) (by kernel_rfl) ?_
  have hst7 := hst.nil
  have hs8 := hs6.kept [0, 3, 4] [(0, .pointer (some ad_x0)), (3, .slice none 0 0), (4, .int .i64 (0 : Int))] (by kernel_rfl)
  refine f18_l1_ok hbf hbk hA_x0 h_x0_0 h_x0_1 h_x0_2 h_x0_3 h_x0_4 h_x0_5  ?_ hr (Mem.le.refl _) hst7 hs8 OwnSl.nil (inr_of (by kernel_rfl))
  intro out'3e9 hr
  intro m10 w12 a14 a_out'3e9 c_out'3e9 I_out'3e9 hm11 hst13 hs15 h_out'3e9
  refine to_seq (sub [1, 1, 1, 0] f18_c) (sub [1, 1, 1, 1] f18_c) (by kernel_rfl) ?_
  refine to_nd 6 2 (rops (sub [1, 1, 1, 0] f18_c)) (by kernel_rfl) (by kernel_rfl) ?_
  refine nd_q (c := 0) 2 [2] hs15 [(2, .slice a_out'3e9 out'3e9.length c_out'3e9)] (by kernel_rfl) fun a16 hs17 => ?_
  refine nd_done ?_
  exact to_ret (v := .slice a_out'3e9 out'3e9.length c_out'3e9) (by kernel_rfl) hbf Try.func18 hbk hs17 (by kernel_rfl) (hQ hr hm11 hst13 h_out'3e9)
/-! ### 20: (*salchow/salchowref50.Channel).Deliverable -/
noncomputable def f20_c : Code := codeOf Try.f20
def f20_post (z : Base) (m : Mem) (G : List Grp)  (Q : (List Int) → Prop) : Ending → World → Prop := fun e w' => ∃ (r : (List Int)) (a0_0 : Option Addr) (c0_0 : Nat) (I0_0 : Grp), W.St z w' m (I0_0 :: G) ∧ e = .returned (.slice a0_0 r.length c0_0) ∧ OwnSl (kInt .i64) 8 3 m a0_0 c0_0 I0_0 r ∧ Q r
def f20_YR (z : Base) (m0 : Mem) (G : List Grp) (R : Ending → World → Prop)  (r : (List Int)) : Prop := ∀ {m : Mem} {w : World} {a0_0 : Option Addr} {c0_0 : Nat} {I0_0 : Grp}, m0.le m → W.St z w m (I0_0 :: G) → (OwnSl (kInt .i64) 8 3 m a0_0 c0_0 I0_0 r) →  R (.returned (.slice a0_0 r.length c0_0)) w
theorem f20_YR_mono {z : Base} {m0 m1 : Mem} {G : List Grp} {R : Ending → World → Prop}  {r : (List Int)} (hm : m0.le m1) (h : f20_YR z m0 G R  r) : f20_YR z m1 G R  r := by
  intro m w a0_0 c0_0 I0_0 hm'
  exact h (hm.trans hm')
def f20_l1_Y (z : Base) (m0 : Mem) (G : List Grp) (b : Frame) (cs : List Frame) (R : Ending → World → Prop) (ad_c'0 : Addr) (a_c'0_1 : Option Addr) (c_c'0_1 : Nat) (a_c'0_2 : Option Addr) (c_c'0_2 : Nat) (c'0 : S47) (out'3 : (List Int)) (i'4 : Int) : Prop := ∀ {m : Mem} {w : World} {a : Act} {a_out'3 : Option Addr} {c_out'3 : Nat} {I_out'3 : Grp}, m0.le m → W.St z w m (I_out'3 :: G) → Has 36 a [(0, .pointer (some ad_c'0)), (3, .slice a_out'3 out'3.length c_out'3), (4, .int .i64 i'4)] → (OwnSl (kInt .i64) 8 3 m a_out'3 c_out'3 I_out'3 out'3) → (InR .i64 i'4) → Reach Try.prog b cs R [.code (sub [1, 1, 0, 1, 0, 0] f20_c), .inLoop (sub [1, 1, 0, 1, 0, 0] f20_c), .inBlock 0, .code (sub [1, 1, 1] f20_c)] a w
def f20_j2_Y (z : Base) (m0 : Mem) (G : List Grp) (b : Frame) (cs : List Frame) (R : Ending → World → Prop) (ad_c'0 : Addr) (a_c'0_1 : Option Addr) (c_c'0_1 : Nat) (a_c'0_2 : Option Addr) (c_c'0_2 : Nat) (c'0 : S47) (out'3 : (List Int)) (i'4 : Int) : Prop := ∀ {m : Mem} {w : World} {a : Act} {a_out'3 : Option Addr} {c_out'3 : Nat} {I_out'3 : Grp}, m0.le m → W.St z w m (I_out'3 :: G) → Has 36 a [(0, .pointer (some ad_c'0)), (3, .slice a_out'3 out'3.length c_out'3), (4, .int .i64 i'4)] → (OwnSl (kInt .i64) 8 3 m a_out'3 c_out'3 I_out'3 out'3) → (InR .i64 i'4) → Reach Try.prog b cs R [.inBlock 1, .code (sub [1, 1, 0, 1, 0, 0, 1, 1] f20_c), .inLoop (sub [1, 1, 0, 1, 0, 0] f20_c), .inBlock 0, .code (sub [1, 1, 1] f20_c)] a w
def f20_j2 (c'0 : S47) (X : (List Int) → Int → Prop) (out'3 : (List Int)) (i'4 : Int) : Prop := X out'3 (w64 (i'4 + (1 : Int)))
theorem f20_j2_ok {z : Base} {m0 : Mem} {G : List Grp} {b : Frame} {cs : List Frame} {R : Ending → World → Prop} {ad_c'0 : Addr} {a_c'0_1 : Option Addr} {c_c'0_1 : Nat} {a_c'0_2 : Option Addr} {c_c'0_2 : Nat} {c'0 : S47} {X : (List Int) → Int → Prop} (hbf : b.fn = 20) (hbk : b.kind = .normal) (hA_c'0 : At m0 ad_c'0 6 (cells [.int .i64 c'0.f0, .slice a_c'0_1 c'0.f1.length c_c'0_1, .slice a_c'0_2 c'0.f2.length c_c'0_2, .int .i64 c'0.f3.f0, .int .i64 c'0.f3.f1, .int .i64 c'0.f3.f2])) (h_c'0_0 : InR .i64 c'0.f0) (h_c'0_1 : Sl kBool 1 m0 a_c'0_1 c_c'0_1 c'0.f1) (h_c'0_2 : Sl k67 40 m0 a_c'0_2 c_c'0_2 c'0.f2) (h_c'0_3 : InR .i64 c'0.f3.f0) (h_c'0_4 : InR .i64 c'0.f3.f1) (h_c'0_5 : InR .i64 c'0.f3.f2)  (hX : ∀ {out'3 : (List Int)} {i'4 : Int}, X out'3 i'4 → f20_l1_Y z m0 G b cs R ad_c'0 a_c'0_1 c_c'0_1 a_c'0_2 c_c'0_2 c'0 out'3 i'4) : ∀ {out'3 : (List Int)} {i'4 : Int}, f20_j2 c'0 X out'3 i'4 → f20_j2_Y z m0 G b cs R ad_c'0 a_c'0_1 c_c'0_1 a_c'0_2 c_c'0_2 c'0 out'3 i'4 := by
  intro out'3 i'4 hr m w a0 a_out'3 c_out'3 I_out'3 hm0 hst hs0 h_out'3 h_i'4
  unfold f20_j2 at hr
  refine reach_inBlock ?_
  refine to_nd 4 3 (rops (sub [1, 1, 0, 1, 0, 0, 1, 1] f20_c)) (by kernel_rfl) (by kernel_rfl) ?_
  refine nd_q (c := 0) 3 [0, 3, 4] hs0 [(0, .pointer (some ad_c'0)), (3, .slice a_out'3 out'3.length c_out'3), (4, .int .i64 (w64 (i'4 + (1 : Int))))] (by kernel_rfl) fun a1 hs2 => ?_
  refine nd_done ?_
  refine reach_inLoop ?_
  have hs3 := hs2.kept [0, 3, 4] [(0, .pointer (some ad_c'0)), (3, .slice a_out'3 out'3.length c_out'3), (4, .int .i64 (w64 (i'4 + (1 : Int))))] (by kernel_rfl)
  exact hX hr hm0 hst hs3 h_out'3 (wrap_in .i64 _)
def f20_l1_Yk1 (z : Base) (m0 : Mem) (G : List Grp) (b : Frame) (cs : List Frame) (R : Ending → World → Prop) (ad_c'0 : Addr) (a_c'0_1 : Option Addr) (c_c'0_1 : Nat) (a_c'0_2 : Option Addr) (c_c'0_2 : Nat) (c'0 : S47) (out'3 : (List Int)) : Prop := ∀ {m : Mem} {w : World} {a : Act} {a_out'3 : Option Addr} {c_out'3 : Nat} {I_out'3 : Grp}, m0.le m → W.St z w m (I_out'3 :: G) → Has 36 a [(3, .slice a_out'3 out'3.length c_out'3)] → (OwnSl (kInt .i64) 8 3 m a_out'3 c_out'3 I_out'3 out'3) → Reach Try.prog b cs R [.code (sub [1, 1, 1] f20_c)] a w
def f20_l1_b (c'0 : S47) (k1 : (List Int) → Prop) (X : (List Int) → Int → Prop) (out'3 : (List Int)) (i'4 : Int) : Prop := if i'4 < (c'0.f2.length : Int) then (ofO (ix c'0.f2 i'4) fun x14 => f30 c'0 x14.f1 fun r21 => if r21 = true then (ofO (ix c'0.f2 i'4) fun x35 => ofO (app 8 out'3 ([x35.f0])) fun r49 => f20_j2 c'0 X r49 i'4) else (f20_j2 c'0 X out'3 i'4)) else (k1 out'3)
def f20_l1 (c'0 : S47) (k1 : (List Int) → Prop) (out'3 : (List Int)) (i'4 : Int) : Prop := ∀ X : (List Int) → Int → Prop, (∀ {out'3 : (List Int)} {i'4 : Int}, f20_l1_b c'0 k1 X out'3 i'4 → X out'3 i'4) → X out'3 i'4
theorem f20_l1_ok {z : Base} {m0 : Mem} {G : List Grp} {b : Frame} {cs : List Frame} {R : Ending → World → Prop} {ad_c'0 : Addr} {a_c'0_1 : Option Addr} {c_c'0_1 : Nat} {a_c'0_2 : Option Addr} {c_c'0_2 : Nat} {c'0 : S47} {k1 : (List Int) → Prop}  (hbf : b.fn = 20) (hbk : b.kind = .normal) (hA_c'0 : At m0 ad_c'0 6 (cells [.int .i64 c'0.f0, .slice a_c'0_1 c'0.f1.length c_c'0_1, .slice a_c'0_2 c'0.f2.length c_c'0_2, .int .i64 c'0.f3.f0, .int .i64 c'0.f3.f1, .int .i64 c'0.f3.f2])) (h_c'0_0 : InR .i64 c'0.f0) (h_c'0_1 : Sl kBool 1 m0 a_c'0_1 c_c'0_1 c'0.f1) (h_c'0_2 : Sl k67 40 m0 a_c'0_2 c_c'0_2 c'0.f2) (h_c'0_3 : InR .i64 c'0.f3.f0) (h_c'0_4 : InR .i64 c'0.f3.f1) (h_c'0_5 : InR .i64 c'0.f3.f2)  (hk1 : ∀ {out'3 : (List Int)}, k1 out'3 → f20_l1_Yk1 z m0 G b cs R ad_c'0 a_c'0_1 c_c'0_1 a_c'0_2 c_c'0_2 c'0 out'3) : ∀ {out'3 : (List Int)} {i'4 : Int}, f20_l1 c'0 k1 out'3 i'4 → f20_l1_Y z m0 G b cs R ad_c'0 a_c'0_1 c_c'0_1 a_c'0_2 c_c'0_2 c'0 out'3 i'4 := by
  intro out'3 i'4 hr
  refine hr (f20_l1_Y z m0 G b cs R ad_c'0 a_c'0_1 c_c'0_1 a_c'0_2 c_c'0_2 c'0) ?_
  intro out'3 i'4 hr m w a0 a_out'3 c_out'3 I_out'3 hm0 hst hs0 h_out'3 h_i'4
  have hX : ∀ {out'3 : (List Int)} {i'4 : Int}, f20_l1_Y z m0 G b cs R ad_c'0 a_c'0_1 c_c'0_1 a_c'0_2 c_c'0_2 c'0 out'3 i'4 → f20_l1_Y z m0 G b cs R ad_c'0 a_c'0_1 c_c'0_1 a_c'0_2 c_c'0_2 c'0 out'3 i'4 := fun h => h
  unfold f20_l1_b at hr
  refine to_seq (sub [1, 1, 0, 1, 0, 0, 0] f20_c) (sub [1, 1, 0, 1, 0, 0, 1] f20_c) (by kernel_rfl) ?_
  refine to_seq (sub [1, 1, 0, 1, 0, 0, 0, 0] f20_c) (sub [1, 1, 0, 1, 0, 0, 0, 1] f20_c) (by kernel_rfl) ?_
  refine to_nd 3 7 (rops (sub [1, 1, 0, 1, 0, 0, 0, 0] f20_c)) (by kernel_rfl) (by kernel_rfl) ?_
  refine nd_q (c := 3) 4 [0, 3, 4, 5, 8] hs0 [(0, .pointer (some ad_c'0)), (3, .slice a_out'3 out'3.length c_out'3), (4, .int .i64 i'4), (5, .int .i64 i'4), (8, .pointer (some ⟨ad_c'0.block, ad_c'0.off + 2, none⟩))] (by kernel_rfl) fun a1 hs2 => ?_
  refine nd_v (i := 4) (c := 2) 9 (.slice a_c'0_2 c'0.f2.length c_c'0_2) hs2 (by kernel_rfl) (ld1_run (P := Try.prog) (ad := ⟨ad_c'0.block, ad_c'0.off + 2, none⟩) (by kernel_rfl) ((hA_c'0.mono hm0).cell hst (j := 2) (Nat.le_of_ble_eq_true rfl))) fun a3 hs4 => ?_
  refine nd_q (c := 0) 2 [0, 3, 4, 11] hs4 [(0, .pointer (some ad_c'0)), (3, .slice a_out'3 out'3.length c_out'3), (4, .int .i64 i'4), (11, .bool (decide (i'4 < (c'0.f2.length : Int))))] (by kernel_rfl) fun a5 hs6 => ?_
  refine nd_done ?_
  by_cases hb7 : i'4 < (c'0.f2.length : Int)
  rotate_left
  · rw [if_neg hb7] at hr
    rw [(decide_eq_false hb7)] at hs6
    refine to_else (.tmp 11) (sub [1, 1, 0, 1, 0, 0, 0, 1, 0] f20_c) (sub [1, 1, 0, 1, 0, 0, 0, 1, 1] f20_c) (by kernel_rfl) hs6 (by kernel_rfl) ?_
    refine to_exit 0 (by kernel_rfl) [.code (sub [1, 1, 1] f20_c)] rfl ?_
    have hs59 := hs6.kept [3] [(3, .slice a_out'3 out'3.length c_out'3)] (by kernel_rfl)
    exact hk1 hr hm0 hst hs59 h_out'3
  rw [if_pos hb7] at hr
  rw [(decide_eq_true hb7)] at hs6
  refine to_then (.tmp 11) (sub [1, 1, 0, 1, 0, 0, 0, 1, 0] f20_c) (sub [1, 1, 0, 1, 0, 0, 0, 1, 1] f20_c) (by kernel_rfl) hs6 (by kernel_rfl) ?_
  refine to_skip (by kernel_rfl) ?_
  refine to_seq (sub [1, 1, 0, 1, 0, 0, 1, 0] f20_c) (sub [1, 1, 0, 1, 0, 0, 1, 1] f20_c) (by kernel_rfl) ?_
  refine to_block 1 (sub [1, 1, 0, 1, 0, 0, 1, 0, 0] f20_c) (by kernel_rfl) ?_
  refine to_seq (sub [1, 1, 0, 1, 0, 0, 1, 0, 0, 0] f20_c) (sub [1, 1, 0, 1, 0, 0, 1, 0, 0, 1] f20_c) (by kernel_rfl) ?_
  refine to_nd 5 10 (rops (sub [1, 1, 0, 1, 0, 0, 1, 0, 0, 0] f20_c)) (by kernel_rfl) (by kernel_rfl) ?_
  refine nd_q (c := 6) 4 [0, 3, 4, 14, 17] hs6 [(0, .pointer (some ad_c'0)), (3, .slice a_out'3 out'3.length c_out'3), (4, .int .i64 i'4), (14, .pointer (some ad_c'0)), (17, .pointer (some ⟨ad_c'0.block, ad_c'0.off + 2, none⟩))] (by kernel_rfl) fun a8 hs9 => ?_
  refine nd_v (i := 4) (c := 5) 18 (.slice a_c'0_2 c'0.f2.length c_c'0_2) hs9 (by kernel_rfl) (ld1_run (P := Try.prog) (ad := ⟨ad_c'0.block, ad_c'0.off + 2, none⟩) (by kernel_rfl) ((hA_c'0.mono hm0).cell hst (j := 2) (Nat.le_of_ble_eq_true rfl))) fun a10 hs11 => ?_
  refine nd_q (c := 4) 1 [0, 3, 4, 14, 18, 19] hs11 [(0, .pointer (some ad_c'0)), (3, .slice a_out'3 out'3.length c_out'3), (4, .int .i64 i'4), (14, .pointer (some ad_c'0)), (18, .slice a_c'0_2 c'0.f2.length c_c'0_2), (19, .int .i64 i'4)] (by kernel_rfl) fun a12 hs13 => ?_
  obtain ⟨x14, hx14, hr⟩ := ofO_el hr
  obtain ⟨ad14, c14, hA14, hR14, hX14⟩ := Row.ix (h_c'0_2.mono hm0).1 hx14
  obtain ⟨he14, hf14_0, hf14_1, hf14_2, hf14_3⟩ := k67_open hR14
  have hB14 := hA14.conv he14
  refine nd_v (i := 6) (c := 3) 20 (.pointer (some ad14)) hs13 (by kernel_rfl) (hX14 (P := Try.prog) (w := w) (by kernel_rfl)) fun a15 hs16 => ?_
  refine nd_q (c := 2) 1 [0, 3, 4, 14, 21] hs16 [(0, .pointer (some ad_c'0)), (3, .slice a_out'3 out'3.length c_out'3), (4, .int .i64 i'4), (14, .pointer (some ad_c'0)), (21, .pointer (some ⟨ad14.block, ad14.off + 1, none⟩))] (by kernel_rfl) fun a17 hs18 => ?_
  refine nd_v (i := 8) (c := 1) 22 (.agg #[.int .i64 x14.f1.f0, .int .i64 x14.f1.f1, .string x14.f1.f2]) hs18 (by kernel_rfl) (ldN_run (P := Try.prog) (ad := ⟨ad14.block, ad14.off + 1, none⟩) (l := [.int .i64 x14.f1.f0, .int .i64 x14.f1.f1, .string x14.f1.f2]) 3 rfl (by kernel_rfl) ((hB14.sub 1 3 (Nat.le_of_ble_eq_true rfl)).all hst)) fun a19 hs20 => ?_
  refine nd_op (op_call (some 23) hs20 (by kernel_rfl) (by kernel_rfl) ((f30_ok hst (hA_c'0.mono hm0) h_c'0_0 (h_c'0_1.mono hm0) (h_c'0_2.mono hm0) h_c'0_3 h_c'0_4 h_c'0_5 hf14_1 hf14_2 hf14_3 hr).mono ?_))
  rintro _ w22 ⟨r21, hst25, rfl, hr⟩
  revert hr; intro hr
  refine ⟨_, rfl, fun a23 hs24 => ?_⟩
  refine nd_done ?_
  by_cases hb28 : r21 = true
  rotate_left
  · rw [if_neg hb28] at hr
    rw [(bF hb28)] at hs24
    refine to_else (.tmp 23) (sub [1, 1, 0, 1, 0, 0, 1, 0, 0, 1, 0] f20_c) (sub [1, 1, 0, 1, 0, 0, 1, 0, 0, 1, 1] f20_c) (by kernel_rfl) hs24 (by kernel_rfl) ?_
    refine to_skip (by kernel_rfl) ?_
    have hs58 := hs24.kept [0, 3, 4] [(0, .pointer (some ad_c'0)), (3, .slice a_out'3 out'3.length c_out'3), (4, .int .i64 i'4)] (by kernel_rfl)
    exact f20_j2_ok hbf hbk hA_c'0 h_c'0_0 h_c'0_1 h_c'0_2 h_c'0_3 h_c'0_4 h_c'0_5  hX hr hm0 hst25 hs58 h_out'3 h_i'4
  rw [if_pos hb28] at hr
  rw [(bT hb28)] at hs24
  refine to_then (.tmp 23) (sub [1, 1, 0, 1, 0, 0, 1, 0, 0, 1, 0] f20_c) (sub [1, 1, 0, 1, 0, 0, 1, 0, 0, 1, 1] f20_c) (by kernel_rfl) hs24 (by kernel_rfl) ?_
  refine to_nd 6 12 (rops (sub [1, 1, 0, 1, 0, 0, 1, 0, 0, 1, 0] f20_c)) (by kernel_rfl) (by kernel_rfl) ?_
  refine nd_q (c := 8) 4 [0, 3, 4, 24, 27] hs24 [(0, .pointer (some ad_c'0)), (3, .slice a_out'3 out'3.length c_out'3), (4, .int .i64 i'4), (24, .slice a_out'3 out'3.length c_out'3), (27, .pointer (some ⟨ad_c'0.block, ad_c'0.off + 2, none⟩))] (by kernel_rfl) fun a29 hs30 => ?_
  refine nd_v (i := 4) (c := 7) 28 (.slice a_c'0_2 c'0.f2.length c_c'0_2) hs30 (by kernel_rfl) (ld1_run (P := Try.prog) (ad := ⟨ad_c'0.block, ad_c'0.off + 2, none⟩) (by kernel_rfl) ((hA_c'0.mono hm0).cell hst25 (j := 2) (Nat.le_of_ble_eq_true rfl))) fun a31 hs32 => ?_
  refine nd_q (c := 6) 1 [0, 3, 4, 24, 28, 29] hs32 [(0, .pointer (some ad_c'0)), (3, .slice a_out'3 out'3.length c_out'3), (4, .int .i64 i'4), (24, .slice a_out'3 out'3.length c_out'3), (28, .slice a_c'0_2 c'0.f2.length c_c'0_2), (29, .int .i64 i'4)] (by kernel_rfl) fun a33 hs34 => ?_
  obtain ⟨x35, hx35, hr⟩ := ofO_el hr
  obtain ⟨ad35, c35, hA35, hR35, hX35⟩ := Row.ix (h_c'0_2.mono hm0).1 hx35
  obtain ⟨he35, hf35_0, hf35_1, hf35_2, hf35_3⟩ := k67_open hR35
  have hB35 := hA35.conv he35
  refine nd_v (i := 6) (c := 5) 30 (.pointer (some ad35)) hs34 (by kernel_rfl) (hX35 (P := Try.prog) (w := w22) (by kernel_rfl)) fun a36 hs37 => ?_
  refine nd_q (c := 4) 1 [0, 3, 4, 24, 31] hs37 [(0, .pointer (some ad_c'0)), (3, .slice a_out'3 out'3.length c_out'3), (4, .int .i64 i'4), (24, .slice a_out'3 out'3.length c_out'3), (31, .pointer (some ad35))] (by kernel_rfl) fun a38 hs39 => ?_
  refine nd_v (i := 8) (c := 3) 32 (.int .i64 x35.f0) hs39 (by kernel_rfl) (ld1_run (P := Try.prog) (ad := ad35) (by kernel_rfl) (hB35.cell0 hst25 (Nat.le_of_ble_eq_true rfl))) fun a40 hs41 => ?_
  have ho48 : OwnSl (kInt .i64) 8 3 m (some ⟨w22.heap.size, 0, none⟩) 1 [(w22.heap.size, .cells ([.int .i64 x35.f0]).toArray 3 (0, 0))] [x35.f0] := own_row (n := 1) (RepL.cons (l := [.int .i64 x35.f0]) rfl (kInt_mk hf35_0) RepL.nil) rfl (Nat.le_of_ble_eq_true rfl) (Nat.le_of_ble_eq_true rfl)
  have hst44 := hst25.alloc (.cells [.int .i64 x35.f0].toArray 3 (0, 0))
  refine nd_op (op_v (w' := w22.alloc (.cells [.int .i64 x35.f0].toArray 3 (0, 0))) (some 33) (.slice (some ⟨w22.heap.size, 0, none⟩) 1 1) hs41 (by kernel_rfl) (by kernel_rfl) fun a45 hs46 => ?_)
  generalize w22.heap.size = b42 at hst44 hs46 ho48
  generalize w22.alloc (.cells [.int .i64 x35.f0].toArray 3 (0, 0)) = w43 at hst44 ⊢
  obtain ⟨r49, hcq50, hr⟩ := ofO_el hr
  have hst51 := W.St.front [_] hst44
  obtain ⟨aq50, cq50, Iq50, wq50, hxq50, hstq50, hoq50⟩ := own_append (P := Try.prog) (o := opAt (rops (sub [1, 1, 0, 1, 0, 0, 1, 0, 0, 1, 0] f20_c)) 10) (ρ := Env.rho hs46.env) (c := 1) (news := [.int .i64 x35.f0]) (by kernel_rfl) hst51 h_out'3 (RepL.cons (l := [.int .i64 x35.f0]) rfl (kInt_mk hf35_0) RepL.nil) (row_cells [_] hst51) (by kernel_rfl) (Nat.le_of_ble_eq_true rfl) hcq50
  refine nd_op (op_v (some 34) (.slice aq50 r49.length cq50) hs46 (by kernel_rfl) hxq50 fun a52 hs53 => ?_)
  refine nd_q (c := 0) 1 [0, 3, 4] hs53 [(0, .pointer (some ad_c'0)), (3, .slice aq50 r49.length cq50), (4, .int .i64 i'4)] (by kernel_rfl) fun a54 hs55 => ?_
  refine nd_done ?_
  have hst56 := W.St.drop [_] hstq50
  have hs57 := hs55.kept [0, 3, 4] [(0, .pointer (some ad_c'0)), (3, .slice aq50 r49.length cq50), (4, .int .i64 i'4)] (by kernel_rfl)
  exact f20_j2_ok hbf hbk hA_c'0 h_c'0_0 h_c'0_1 h_c'0_2 h_c'0_3 h_c'0_4 h_c'0_5  hX hr hm0 hst56 hs57 hoq50 h_i'4
def f20  (x0 : S47) : M (List Int) := fun Q => f20_l1 x0 (fun out'3e9 => Q out'3e9) ([] : List Int) (0 : Int)
theorem f20_ok  {z : Base} {w : World} {m : Mem} {G : List Grp} {ad_x0 : Addr} {a_x0_1 : Option Addr} {c_x0_1 : Nat} {a_x0_2 : Option Addr} {c_x0_2 : Nat} {x0 : S47} {Q : (List Int) → Prop} (hst : W.St z w m (G)) (hA_x0 : At m ad_x0 6 (cells [.int .i64 x0.f0, .slice a_x0_1 x0.f1.length c_x0_1, .slice a_x0_2 x0.f2.length c_x0_2, .int .i64 x0.f3.f0, .int .i64 x0.f3.f1, .int .i64 x0.f3.f2])) (h_x0_0 : InR .i64 x0.f0) (h_x0_1 : Sl kBool 1 m a_x0_1 c_x0_1 x0.f1) (h_x0_2 : Sl k67 40 m a_x0_2 c_x0_2 x0.f2) (h_x0_3 : InR .i64 x0.f3.f0) (h_x0_4 : InR .i64 x0.f3.f1) (h_x0_5 : InR .i64 x0.f3.f2) (hr : f20  x0 Q) : Calls Try.prog 20 #[.pointer (some ad_x0)] w (f20_post z m G  Q) := by
  refine calls_begin (c := f20_c) (n := 36) [.pointer (some ad_x0)] Try.func20 (by kernel_rfl) Try.ntmps20 (Nat.le_of_ble_eq_true rfl) fun b cs a0 hbf hbk hs0 => ?_
  have hm0 := Mem.le.refl m
  have hQ : ∀ {r : (List Int)}, Q r → f20_YR z m G (f20_post z m G  Q)  r := by intro r hq m' w' a0_0 c0_0 I0_0 hm' hst' hf0_0; exact ⟨r, a0_0, c0_0, I0_0,  W.St.less hm' hst', rfl, (OwnSl.flat flat_int hf0_0), hq⟩
  unfold f20 at hr
  refine to_seq (sub [0] f20_c) (sub [1] f20_c) (by kernel_rfl) ?_
  refine to_nd 0 1 (rops (sub [0] f20_c)) (by kernel_rfl) (by kernel_rfl) ?_
  refine nd_q (c := 0) 1 [0] hs0 [(0, .pointer (some ad_x0))] (by kernel_rfl) fun a1 hs2 => ?_
  refine nd_done ?_
  refine to_seq (sub [1, 0] f20_c) (sub [1, 1] f20_c) (by kernel_rfl) ?_
  refine to_nd 1 1 (rops (sub [1, 0] f20_c)) (by kernel_rfl) (by kernel_rfl) ?_
  refine nd_q (c := 0) 1 [0, 3] hs2 [(0, .pointer (some ad_x0)), (3, .slice none 0 0)] (by kernel_rfl) fun a3 hs4 => ?_
  refine nd_done ?_
  refine to_seq (sub [1, 1, 0] f20_c) (sub [1, 1, 1] f20_c) (by kernel_rfl) ?_
  refine to_seq (sub [1, 1, 0, 0] f20_c) (sub [1, 1, 0, 1] f20_c) (by kernel_rfl) ?_
  refine to_nd 2 1 (rops (sub [1, 1, 0, 0] f20_c)) (by kernel_rfl) (by kernel_rfl) ?_
  refine nd_q (c := 0) 1 [0, 3, 4] hs4 [(0, .pointer (some ad_x0)), (3, .slice none 0 0), (4, .int .i64 (0 : Int))] (by kernel_rfl) fun a5 hs6 => ?_
  refine nd_done ?_
  refine to_block 0 (sub [1, 1, 0, 1, 0] f20_c) (by kernel_rfl) ?_
  refine to_loop (sub [1, 1, 0, 1, 0, 0] f20_c) (by kernel_rfl) ?_
  have hst7 := hst.nil
  have hs8 := hs6.kept [0, 3, 4] [(0, .pointer (some ad_x0)), (3, .slice none 0 0), (4, .int .i64 (0 : Int))] (by kernel_rfl)
  refine f20_l1_ok hbf hbk hA_x0 h_x0_0 h_x0_1 h_x0_2 h_x0_3 h_x0_4 h_x0_5  ?_ hr (Mem.le.refl _) hst7 hs8 OwnSl.nil (inr_of (by kernel_rfl))
  intro out'3e9 hr
  intro m10 w12 a14 a_out'3e9 c_out'3e9 I_out'3e9 hm11 hst13 hs15 h_out'3e9
  refine to_seq (sub [1, 1, 1, 0] f20_c) (sub [1, 1, 1, 1] f20_c) (by kernel_rfl) ?_
  refine to_nd 7 2 (rops (sub [1, 1, 1, 0] f20_c)) (by kernel_rfl) (by kernel_rfl) ?_
  refine nd_q (c := 0) 2 [2] hs15 [(2, .slice a_out'3e9 out'3e9.length c_out'3e9)] (by kernel_rfl) fun a16 hs17 => ?_
  refine nd_done ?_
  exact to_ret (v := .slice a_out'3e9 out'3e9.length c_out'3e9) (by kernel_rfl) hbf Try.func20 hbk hs17 (by kernel_rfl) (hQ hr hm11 hst13 h_out'3e9)
end Go.Proofs.Ytcnlbnccghjeaaa.W
