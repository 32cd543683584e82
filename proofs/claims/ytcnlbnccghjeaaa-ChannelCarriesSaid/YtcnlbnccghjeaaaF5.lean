/- Printed by gen2.py: Go functions as Lean functions, and the proofs that the calls come to them. Conditions: none. -/
import Derived.Test.YtcnlbnccghjeaaaF4
set_option linter.unusedVariables false
set_option linter.unusedSimpArgs false
set_option maxRecDepth 100000
namespace Go.Proofs.Ytcnlbnccghjeaaa.W
open Go

/-! ### 31: (*salchow/salchowref50.Channel).take -/
noncomputable def f31_c : Code := codeOf Try.f31
def f31_post (z : Base) (m : Mem) (G : List Grp) (b_x0 : Nat) (Q : S47 → Prop) : Ending → World → Prop := fun e w' => ∃ (r : S47) (I_i0 : Grp), W.St z w' m (I_i0 :: G) ∧ e = .returned (.tuple #[]) ∧ OwnS47 m b_x0 I_i0 r ∧ Q r
def f31_YR (z : Base) (m0 : Mem) (G : List Grp) (R : Ending → World → Prop) (b_x0 : Nat) (r : S47) : Prop := ∀ {m : Mem} {w : World} {I_i0 : Grp}, m0.le m → W.St z w m (I_i0 :: G) → (OwnS47 m b_x0 I_i0 r) →  R (.returned (.tuple #[])) w
theorem f31_YR_mono {z : Base} {m0 m1 : Mem} {G : List Grp} {R : Ending → World → Prop} {b_x0 : Nat} {r : S47} (hm : m0.le m1) (h : f31_YR z m0 G R b_x0 r) : f31_YR z m1 G R b_x0 r := by
  intro m w I_i0 hm'
  exact h (hm.trans hm')
def f31  (x0 : S47) (x1 : Int) : M S47 := fun Q => ofO (cut x0.f2 0 x1) fun r23 => ofO (cut x0.f2 (w64 (x1 + (1 : Int))) (x0.f2.length : Int)) fun r41 => ofO (app 40 ([] : List S67) r23) fun r62 => ofO (app 40 r62 r41) fun r74 => Q (⟨x0.f0, x0.f1, r74, (⟨x0.f3.f0, x0.f3.f1, x0.f3.f2⟩ : S44)⟩ : S47)
theorem f31_ok  {z : Base} {w : World} {m : Mem} {G : List Grp} {b_x0 : Nat} {I_x0 : Grp} {x0 : S47} {x1 : Int} {Q : S47 → Prop} (hst : W.St z w m (I_x0 :: G)) (h_x0 : OwnS47 m b_x0 I_x0 x0) (h_x1 : InR .i64 x1) (hr : f31  x0 x1 Q) : Calls Try.prog 31 #[.pointer (some ⟨b_x0, 0, none⟩), .int .i64 x1] w (f31_post z m G b_x0 Q) := by
  refine calls_begin (c := f31_c) (n := 23) [.pointer (some ⟨b_x0, 0, none⟩), .int .i64 x1] Try.func31 (by kernel_rfl) Try.ntmps31 (Nat.le_of_ble_eq_true rfl) fun b cs a0 hbf hbk hs0 => ?_
  have hm0 := Mem.le.refl m
  have hQ : ∀ {r : S47}, Q r → f31_YR z m G (f31_post z m G b_x0 Q) b_x0 r := by intro r hq m' w' I_i0 hm' hst' hf_i0; exact ⟨r, I_i0,  W.St.less hm' hst', rfl, (OwnS47.flat hf_i0), hq⟩
  unfold f31 at hr
  obtain ⟨aq1_1, cq1_1, Iq1_1, aq1_2, cq1_2, Iq1_2, hI2, hfq1_0, hfq1_1, hfq1_2, hfq1_3, hfq1_4, hfq1_5⟩ := id h_x0
  have hst3 := hst
  rw [hI2] at hst3
  have hst4 := hst3.split.split
  have hs5 := hs0.kept [0, 1] [(0, .pointer (some ⟨b_x0, 0, none⟩)), (1, .int .i64 x1)] (by kernel_rfl)
  refine to_dr 0 20 (rops (sub [] f31_c)) (by kernel_rfl) (by kernel_rfl) (by kernel_rfl) [19] (fun w => Go.Proofs.Ytcnlbnccghjeaaa.W.St z w m G) (fun _ w => Go.Proofs.Ytcnlbnccghjeaaa.W.St z w m ([(b_x0, .cells [.int .i64 x0.f0, .slice aq1_1 x0.f1.length cq1_1, .slice aq1_2 x0.f2.length cq1_2, .int .i64 x0.f3.f0, .int .i64 x0.f3.f1, .int .i64 x0.f3.f2].toArray 48 (0, 0))] :: Iq1_1 :: Iq1_2 :: G)) fun hd6 => ?_
  have hst8 := hst4.drawn (w.drawn + 1)
  generalize hw9 : ({ w with drawn := w.drawn + 1 } : World) = w7 at hst8 ⊢
  clear hw9
  refine dr_q (fuel := 16) [0, 2, 3, 4] [0, 1, 4, 8] [] hs5 hd6 ⟨hst8.drop1.drop1.drop1, fun _ _ _ => hst8⟩ (by kernel_rfl) (by kernel_rfl) ([(8, .pointer (some ⟨b_x0, 2, none⟩)), (7, .pointer (some ⟨b_x0, 0, none⟩)), (6, .pointer (some ⟨b_x0, 0, none⟩)), (4, .pointer (some ⟨b_x0, 0, none⟩))] ++ [(0, .pointer (some ⟨b_x0, 0, none⟩)), (1, .int .i64 x1)]) [(0, .pointer (some ⟨b_x0, 0, none⟩)), (1, .int .i64 x1), (4, .pointer (some ⟨b_x0, 0, none⟩)), (8, .pointer (some ⟨b_x0, 2, none⟩))] (by kernel_rfl) (by kernel_rfl) (fun _ hx => by cases hx) (fun w hT _ => by kernel_rfl) fun a10 hs11 hd12 hS13 => ?_
  refine dr_vp (fuel := 15) 5 9 (.slice aq1_2 x0.f2.length cq1_2) [19] hs11 hd12 ⟨hst8.drop1.drop1.drop1, fun _ _ _ => hst8⟩ (by kernel_rfl) (by kernel_rfl) (by kernel_rfl) (fun _ _ => hst8) (by kernel_rfl) (fun w hT hF => ld1_run (P := Try.prog) (ad := ⟨b_x0, 2, none⟩) (by kernel_rfl) (W.St.ocell [] (hF 19 (by simp)) 2 (Nat.le_of_ble_eq_true rfl))) fun a15 hs16 hd14 hS17 => ?_
  refine dr_q (fuel := 14) [6] [0, 1, 4, 9, 10] [] hs16 hd14 ⟨hst8.drop1.drop1.drop1, fun _ _ _ => hst8⟩ (by kernel_rfl) (by kernel_rfl) ([(10, .int .i64 x1)] ++ ((9, .slice aq1_2 x0.f2.length cq1_2) :: [(0, .pointer (some ⟨b_x0, 0, none⟩)), (1, .int .i64 x1), (4, .pointer (some ⟨b_x0, 0, none⟩)), (8, .pointer (some ⟨b_x0, 2, none⟩))])) [(0, .pointer (some ⟨b_x0, 0, none⟩)), (1, .int .i64 x1), (4, .pointer (some ⟨b_x0, 0, none⟩)), (9, .slice aq1_2 x0.f2.length cq1_2), (10, .int .i64 x1)] (by kernel_rfl) (by kernel_rfl) (fun _ hx => by cases hx) (fun w hT _ => by kernel_rfl) fun a18 hs19 hd20 hS21 => ?_
  obtain ⟨r23, hcq24, hr⟩ := ofO_el hr
  obtain ⟨hfq24, hXq24⟩ := own_pre hfq1_2 hcq24
  refine dr_vp (fuel := 13) 7 11 (.slice aq1_2 r23.length cq1_2) [] hs19 hd20 ⟨hst8.drop1.drop1.drop1, fun _ _ _ => hst8⟩ (by kernel_rfl) (by kernel_rfl) (by kernel_rfl) (fun _ hx => by cases hx) (by kernel_rfl) (fun w hT hF => hXq24 (P := Try.prog) (w := w) (by kernel_rfl)) fun a25 hs26 hd22 hS27 => ?_
  refine dr_q (fuel := 10) [9, 10, 11] [1, 4, 11, 15] [] hs26 hd22 ⟨hst8.drop1.drop1.drop1, fun _ _ _ => hst8⟩ (by kernel_rfl) (by kernel_rfl) ([(15, .pointer (some ⟨b_x0, 2, none⟩)), (14, .pointer (some ⟨b_x0, 0, none⟩)), (13, .pointer (some ⟨b_x0, 0, none⟩))] ++ ((11, .slice aq1_2 r23.length cq1_2) :: [(0, .pointer (some ⟨b_x0, 0, none⟩)), (1, .int .i64 x1), (4, .pointer (some ⟨b_x0, 0, none⟩)), (9, .slice aq1_2 x0.f2.length cq1_2), (10, .int .i64 x1)])) [(1, .int .i64 x1), (4, .pointer (some ⟨b_x0, 0, none⟩)), (11, .slice aq1_2 r23.length cq1_2), (15, .pointer (some ⟨b_x0, 2, none⟩))] (by kernel_rfl) (by kernel_rfl) (fun _ hx => by cases hx) (fun w hT _ => by kernel_rfl) fun a28 hs29 hd30 hS31 => ?_
  refine dr_vp (fuel := 9) 12 16 (.slice aq1_2 x0.f2.length cq1_2) [19] hs29 hd30 ⟨hst8.drop1.drop1.drop1, fun _ _ _ => hst8⟩ (by kernel_rfl) (by kernel_rfl) (by kernel_rfl) (fun _ _ => hst8) (by kernel_rfl) (fun w hT hF => ld1_run (P := Try.prog) (ad := ⟨b_x0, 2, none⟩) (by kernel_rfl) (W.St.ocell [] (hF 19 (by simp)) 2 (Nat.le_of_ble_eq_true rfl))) fun a33 hs34 hd32 hS35 => ?_
  refine dr_q (fuel := 7) [13, 14] [4, 11, 16, 18] [] hs34 hd32 ⟨hst8.drop1.drop1.drop1, fun _ _ _ => hst8⟩ (by kernel_rfl) (by kernel_rfl) ([(18, .int .i64 (w64 (x1 + (1 : Int)))), (17, .int .i64 x1)] ++ ((16, .slice aq1_2 x0.f2.length cq1_2) :: [(1, .int .i64 x1), (4, .pointer (some ⟨b_x0, 0, none⟩)), (11, .slice aq1_2 r23.length cq1_2), (15, .pointer (some ⟨b_x0, 2, none⟩))])) [(4, .pointer (some ⟨b_x0, 0, none⟩)), (11, .slice aq1_2 r23.length cq1_2), (16, .slice aq1_2 x0.f2.length cq1_2), (18, .int .i64 (w64 (x1 + (1 : Int))))] (by kernel_rfl) (by kernel_rfl) (fun _ hx => by cases hx) (fun w hT _ => by kernel_rfl) fun a36 hs37 hd38 hS39 => ?_
  obtain ⟨r41, hcq42, hr⟩ := ofO_el hr
  refine dr_vp (fuel := 6) 15 19 (.slice (cutA aq1_2 cq1_2 (w64 (x1 + (1 : Int))) 4) r41.length (cq1_2 - ((w64 (x1 + (1 : Int)))).toNat)) [] hs37 hd38 ⟨hst8.drop1.drop1.drop1, fun _ _ _ => hst8⟩ (by kernel_rfl) (by kernel_rfl) (by kernel_rfl) (fun _ hx => by cases hx) (by kernel_rfl) (fun w hT hF => osub_run (P := Try.prog) (w := w) hfq1_2 hcq42 (by kernel_rfl)) fun a43 hs44 hd40 hS45 => ?_
  have ho53 : OwnSl k67 40 68 m (some ⟨w7.heap.size, 0, none⟩) 0 [(w7.heap.size, .cells ([]).toArray 68 (0, 0))] ([] : List S67) := own_row (n := 0) RepL.nil rfl (Nat.le_of_ble_eq_true rfl) (Nat.le_of_ble_eq_true rfl)
  have hst49 := hst8.alloc (.cells [].toArray 68 (0, 0))
  refine dr_op (i := 1) hd40 (by kernel_rfl) fun hd46 => op_v (w' := w7.alloc (.cells [].toArray 68 (0, 0))) (some 5) (.slice (some ⟨w7.heap.size, 0, none⟩) 0 0) hs44 (by kernel_rfl) (by kernel_rfl) fun a50 hs51 => ?_
  generalize w7.heap.size = b47 at hst49 hs51 ho53
  generalize w7.alloc (.cells [].toArray 68 (0, 0)) = w48 at hst49 ⊢
  refine ⟨SE_miss hst49.drop1.drop1.drop1.drop1 (W.St.drop [] hst49), reset_same (T' := (fun w => Go.Proofs.Ytcnlbnccghjeaaa.W.St z w m G)) (F' := (fun _ w => Go.Proofs.Ytcnlbnccghjeaaa.W.St z w m ([(b_x0, .cells [.int .i64 x0.f0, .slice aq1_1 x0.f1.length cq1_1, .slice aq1_2 x0.f2.length cq1_2, .int .i64 x0.f3.f0, .int .i64 x0.f3.f1, .int .i64 x0.f3.f2].toArray 48 (0, 0))] :: Iq1_1 :: Iq1_2 :: G))) (fun w hT => ?_) (fun w hT => ?_) ?_⟩
  · exact hT
  · exact hT
  have hs54 := hs51.kept [4, 5, 11, 16, 18, 19] [(4, .pointer (some ⟨b_x0, 0, none⟩)), (5, .slice (some ⟨b47, 0, none⟩) 0 0), (11, .slice aq1_2 r23.length cq1_2), (16, .slice aq1_2 x0.f2.length cq1_2), (18, .int .i64 (w64 (x1 + (1 : Int)))), (19, .slice (cutA aq1_2 cq1_2 (w64 (x1 + (1 : Int))) 4) r41.length (cq1_2 - ((w64 (x1 + (1 : Int)))).toNat))] (by kernel_rfl)
  obtain ⟨r62, hcq63, hr⟩ := ofO_el hr
  have hst56 := W.St.front [_, _, _] hst49
  have hz58 := hfq1_2.lend hst56
  have hst59 := W.St.freeze hst56
  have hm60 := Mem.le_add m Iq1_2
  generalize hq61 : Mem.add m Iq1_2 = m57 at hz58 hst59 hm60
  obtain ⟨aq63, cq63, Iq63, wq63, hxq63, hstq63, hoq63⟩ := own_append_sl (P := Try.prog) (o := opAt (rops (sub [] f31_c)) 8) (ρ := Env.rho hs54.env) (by kernel_rfl) hst59 (ho53.mono hm60) (Sl.pre hz58 hcq24) hcq63
  have hst64 := W.St.thaw2 hst56 (by rw [hq61]; exact Mem.le.refl _) hstq63
  refine dr_op (i := 8) hd46 (by kernel_rfl) fun hd55 => op_v (some 12) (.slice aq63 r62.length cq63) hs54 (by kernel_rfl) hxq63 fun a65 hs66 => ?_
  refine ⟨SE_miss hst64.drop1.drop1.drop1.drop1 (W.St.front [_, _] (W.St.front [_, _] (W.St.drop [_] hst64))), reset_same (T' := (fun w => Go.Proofs.Ytcnlbnccghjeaaa.W.St z w m G)) (F' := (fun _ w => Go.Proofs.Ytcnlbnccghjeaaa.W.St z w m (Iq1_2 :: [(b_x0, .cells [.int .i64 x0.f0, .slice aq1_1 x0.f1.length cq1_1, .slice aq1_2 x0.f2.length cq1_2, .int .i64 x0.f3.f0, .int .i64 x0.f3.f1, .int .i64 x0.f3.f2].toArray 48 (0, 0))] :: Iq1_1 :: G))) (fun w hT => ?_) (fun w hT => ?_) ?_⟩
  · exact hT
  · exact (W.St.front [_, _] (W.St.front [_, _] hT))
  have hs67 := hs66.kept [4, 11, 12, 16, 18, 19] [(4, .pointer (some ⟨b_x0, 0, none⟩)), (11, .slice aq1_2 r23.length cq1_2), (12, .slice aq63 r62.length cq63), (16, .slice aq1_2 x0.f2.length cq1_2), (18, .int .i64 (w64 (x1 + (1 : Int)))), (19, .slice (cutA aq1_2 cq1_2 (w64 (x1 + (1 : Int))) 4) r41.length (cq1_2 - ((w64 (x1 + (1 : Int)))).toNat))] (by kernel_rfl)
  obtain ⟨r74, hcq75, hr⟩ := ofO_el hr
  have hz70 := hfq1_2.lend hst64
  have hst71 := W.St.freeze hst64
  have hm72 := Mem.le_add m Iq1_2
  generalize hq73 : Mem.add m Iq1_2 = m69 at hz70 hst71 hm72
  obtain ⟨aq75, cq75, Iq75, wq75, hxq75, hstq75, hoq75⟩ := own_append_sl (P := Try.prog) (o := opAt (rops (sub [] f31_c)) 16) (ρ := Env.rho hs67.env) (by kernel_rfl) hst71 ((OwnSl.flat flat_k67 hoq63).mono hm72) (Sl.cut_is hz70 hcq42) hcq75
  have hst76 := W.St.thaw2 hst64 (by rw [hq73]; exact Mem.le.refl _) hstq75
  refine dr_op (i := 16) hd55 (by kernel_rfl) fun hd68 => op_v (some 20) (.slice aq75 r74.length cq75) hs67 (by kernel_rfl) hxq75 fun a77 hs78 => ?_
  refine ⟨SE_miss hst76.drop1.drop1.drop1.drop1 (W.St.drop [_] hst76), reset_same (T' := (fun w => Go.Proofs.Ytcnlbnccghjeaaa.W.St z w m G)) (F' := (fun _ w => Go.Proofs.Ytcnlbnccghjeaaa.W.St z w m (Iq1_2 :: Iq75 :: [(b_x0, .cells [.int .i64 x0.f0, .slice aq1_1 x0.f1.length cq1_1, .slice aq1_2 x0.f2.length cq1_2, .int .i64 x0.f3.f0, .int .i64 x0.f3.f1, .int .i64 x0.f3.f2].toArray 48 (0, 0))] :: Iq1_1 :: G))) (fun w hT => ?_) (fun w hT => ?_) ?_⟩
  · exact hT
  · exact (W.St.drop [_] hT)
  have hs79 := hs78.kept [4, 11, 16, 18, 19, 20] [(4, .pointer (some ⟨b_x0, 0, none⟩)), (11, .slice aq1_2 r23.length cq1_2), (16, .slice aq1_2 x0.f2.length cq1_2), (18, .int .i64 (w64 (x1 + (1 : Int)))), (19, .slice (cutA aq1_2 cq1_2 (w64 (x1 + (1 : Int))) 4) r41.length (cq1_2 - ((w64 (x1 + (1 : Int)))).toNat)), (20, .slice aq75 r74.length cq75)] (by kernel_rfl)
  refine dr_q (fuel := 1) [17, 18] [20, 22] [] hs79 hd68 ⟨hst76.drop1.drop1.drop1.drop1, fun _ _ _ => hst76⟩ (by kernel_rfl) (by kernel_rfl) ([(22, .pointer (some ⟨b_x0, 2, none⟩)), (21, .pointer (some ⟨b_x0, 0, none⟩))] ++ [(4, .pointer (some ⟨b_x0, 0, none⟩)), (11, .slice aq1_2 r23.length cq1_2), (16, .slice aq1_2 x0.f2.length cq1_2), (18, .int .i64 (w64 (x1 + (1 : Int)))), (19, .slice (cutA aq1_2 cq1_2 (w64 (x1 + (1 : Int))) 4) r41.length (cq1_2 - ((w64 (x1 + (1 : Int)))).toNat)), (20, .slice aq75 r74.length cq75)]) [(20, .slice aq75 r74.length cq75), (22, .pointer (some ⟨b_x0, 2, none⟩))] (by kernel_rfl) (by kernel_rfl) (fun _ hx => by cases hx) (fun w hT _ => by kernel_rfl) fun a80 hs81 hd82 hS83 => ?_
  have hst85 := W.St.front [_, _] hst76
  obtain ⟨wq86, hxq86, hstq86⟩ := stq_run (P := Try.prog) (o := opAt (rops (sub [] f31_c)) 19) (ρ := Env.rho hs81.env) (off := 2) (vs := [.slice aq75 r74.length cq75]) (by kernel_rfl) (by kernel_rfl) (Nat.le_of_ble_eq_true rfl) hst85 [.int .i64 x0.f0, .slice aq1_1 x0.f1.length cq1_1, .slice aq75 r74.length cq75, .int .i64 x0.f3.f0, .int .i64 x0.f3.f1, .int .i64 x0.f3.f2] rfl
  refine dr_op (i := 19) hd82 (by kernel_rfl) fun hd84 => op_s none hs81 (by kernel_rfl) hxq86 fun a87 hs88 => ?_
  refine ⟨SE_hit hstq86.drop1.drop1.drop1.drop1 rfl, reset_hit (es' := []) (T' := (fun w => Go.Proofs.Ytcnlbnccghjeaaa.W.St z w m ([(b_x0, .cells [.int .i64 x0.f0, .slice aq1_1 x0.f1.length cq1_1, .slice aq75 r74.length cq75, .int .i64 x0.f3.f0, .int .i64 x0.f3.f1, .int .i64 x0.f3.f2].toArray 48 (0, 0))] :: Iq1_2 :: Iq75 :: Iq1_1 :: G))) (F' := (fun _ _ => True)) rfl (fun w hT => ?_) ?_⟩
  · exact hT.drop1.drop1.drop1.drop1
  have hs89 := hs88.kept [20, 22] [(20, .slice aq75 r74.length cq75), (22, .pointer (some ⟨b_x0, 2, none⟩))] (by kernel_rfl)
  refine dr_done (by kernel_rfl) ?_
  have hst90 := W.St.front [_, _] hstq86
  have hst91 := W.St.front [_, _, _] hst90
  have hst92 := W.St.front [_, _] hst91
  have hst93 := hst92.join.join
  have ho94 : OwnS47 m b_x0 ((([(b_x0, .cells [.int .i64 x0.f0, .slice aq1_1 x0.f1.length cq1_1, .slice aq75 r74.length cq75, .int .i64 x0.f3.f0, .int .i64 x0.f3.f1, .int .i64 x0.f3.f2].toArray 48 (0, 0))] ++ Iq1_1) ++ Iq75)) (⟨x0.f0, x0.f1, r74, (⟨x0.f3.f0, x0.f3.f1, x0.f3.f2⟩ : S44)⟩ : S47) := ⟨aq1_1, cq1_1, Iq1_1, aq75, cq75, Iq75, rfl, hfq1_0, hfq1_1, (OwnSl.flat flat_k67 hoq75), hfq1_3, hfq1_4, hfq1_5⟩
  generalize (([(b_x0, .cells [.int .i64 x0.f0, .slice aq1_1 x0.f1.length cq1_1, .slice aq75 r74.length cq75, .int .i64 x0.f3.f0, .int .i64 x0.f3.f1, .int .i64 x0.f3.f2].toArray 48 (0, 0))] ++ Iq1_1) ++ Iq75) = I95 at ho94 hst93
  have hst96 := W.St.drop [_] hst93
  exact to_end (v := Value.tuple #[]) hbf Try.func31 hbk hs89 (by kernel_rfl) (hQ hr (Mem.le.refl _) hst96 ho94)
end Go.Proofs.Ytcnlbnccghjeaaa.W
