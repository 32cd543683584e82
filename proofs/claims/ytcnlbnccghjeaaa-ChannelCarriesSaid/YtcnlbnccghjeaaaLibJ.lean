/- More steps for walks: draws with effects, what was lent comes back, skipped operations. Conditions: none. -/
import Derived.Test.YtcnlbnccghjeaaaLibI
set_option linter.unusedVariables false
set_option linter.unusedSimpArgs false
namespace Go.Proofs.Ytcnlbnccghjeaaa.W
open Go

/-! ### 1. Lent blocks come back -/

theorem St.thaw2 {z : Base} {w w' : World} {m m' : Mem} {I : Grp} {G G' : List Grp} (h0 : St z w m (I :: G)) (hm : (m.add I).le m') (h : St z w' m' G') : St z w' m (I :: G') := by
  refine ⟨h.os, h.tape, h.output, fun b o hb => h.sub b o (hm b o (m.le_add I b o hb)), fun b o hb => ?_, ?_⟩
  · simp only [List.flatten_cons, List.mem_append] at hb
    rcases hb with hb | hb
    · exact ⟨h.sub b o (hm b o (h0.add_mem hb)), h0.own_none hb⟩
    · have h1 := h.own b o hb
      refine ⟨h1.1, ?_⟩
      cases hq : m b with
      | none => rfl
      | some u => have := hm b u (m.le_add I b u hq); rw [h1.2] at this; cases this
  · simp only [List.flatten_cons, List.map_append]
    rw [List.nodup_append]
    refine ⟨h0.nodup1, h.nd, fun x hx y hy he => ?_⟩
    subst he
    obtain ⟨p, hp, rfl⟩ := List.mem_map.1 hx
    obtain ⟨q, hq, hqe⟩ := List.mem_map.1 hy
    have h1 := hm p.1 p.2 (h0.add_mem (b := p.1) (o := p.2) hp)
    have h2 := (h.own q.1 q.2 hq).2
    rw [hqe, h1] at h2
    cases h2

/-! ### 2. Draws -/

section
variable {P : Program} {n : Nat} {ops : Array Oper} {i : Nat} {a : Act} {e e' : Env} {w w' : World} {Q : Exit → Act → World → Prop} {K : Act → World → Prop} {v : Value}

theorem SE_none {T : World → Prop} {F : Nat → World → Prop} {listed : Array Bool} (h : T w) : SE [] T F listed w := ⟨h, fun _ hx => by cases hx⟩
theorem SE_hit {x : Nat} {T : World → Prop} {F : Nat → World → Prop} {listed : Array Bool} (h : T w) (hl : listed.getD x false = true) : SE [x] T F listed w :=
  ⟨h, fun y hy h2 => by simp at hy; subst hy; rw [hl] at h2; cases h2⟩
theorem SE_miss {x : Nat} {T : World → Prop} {F : Nat → World → Prop} {listed : Array Bool} (h : T w) (hF : F x w) : SE [x] T F listed w :=
  ⟨h, fun y hy h2 => by simp at hy; subst hy; exact hF⟩
theorem wpAnyL_weaken {S S' : Array Bool → World → Prop} {l0 : Array Bool} (H : ∀ l w, (∀ x, l0.getD x false = true → l.getD x false = true) → S' l w → S l w) : ∀ (fuel : Nat) (l : Array Bool) (a : Act) (w : World),
    (∀ x, l0.getD x false = true → l.getD x false = true) → wpAnyL P ops Q S' fuel l a w → wpAnyL P ops Q S fuel l a w
  | 0, _, _, _, _, h => h
  | fuel + 1, l, a, w, hl, h => by
    refine ⟨h.1, fun i hi => wpOp_mono (fun a' w' h' => ?_) (h.2 i hi)⟩
    have hl2 : ∀ x, l0.getD x false = true → (l.setIfInBounds i true).getD x false = true := fun x hx => by
      have h1 := hl x hx
      by_cases hix : i = x
      · subst hix; exact getD_set_true h1
      · rw [getD_set_ne false hix]; exact h1
    exact ⟨H _ _ hl2 h'.1, wpAnyL_weaken H fuel _ a' w' hl2 h'.2⟩
theorem reset_none {es' : List Nat} {T T' : World → Prop} {F F' : Nat → World → Prop} {c fuel : Nat} {done : List Nat} (hT : ∀ w, T' w → T w)
    (h : wpAnyL P ops Q (SE es' T' F') fuel (lst c done) a w) : wpAnyL P ops Q (SE [] T F) fuel (lst c done) a w :=
  wpAnyL_weaken (fun l w _ h => SE_none (hT w h.1)) _ _ _ _ (fun _ h => h) h
theorem reset_hit {x : Nat} {es' : List Nat} {T T' : World → Prop} {F F' : Nat → World → Prop} {c fuel : Nat} {done : List Nat} (hl : (lst c done).getD x false = true) (hT : ∀ w, T' w → T w)
    (h : wpAnyL P ops Q (SE es' T' F') fuel (lst c done) a w) : wpAnyL P ops Q (SE [x] T F) fuel (lst c done) a w :=
  wpAnyL_weaken (fun l w h1 h => SE_hit (hT w h.1) (h1 x hl)) _ _ _ _ (fun _ h => h) h
theorem reset_same {x : Nat} {T T' : World → Prop} {F F' : Nat → World → Prop} {c fuel : Nat} {done : List Nat} (hT : ∀ w, T' w → T w) (hF : ∀ w, F' x w → F x w)
    (h : wpAnyL P ops Q (SE [x] T' F') fuel (lst c done) a w) : wpAnyL P ops Q (SE [x] T F) fuel (lst c done) a w :=
  wpAnyL_weaken (fun l w _ h => ⟨hT w h.1, fun y hy hl => by simp at hy; subst hy; exact hF w (h.2 y (by simp) hl)⟩) _ _ _ _ (fun _ h => h) h

/-- An operation that is not wanted. -/
def chkN (n : Nat) (ops : Array Oper) (i : Nat) (e : Env) (d : Option Nat) : Bool :=
  match ops[i]? with
  | some o => (match d, o.dst with | some x, some y => Nat.beq x y && Nat.ble (x + 1) n | none, none => true | _, _ => false) && (match wantedE ops e o with | some t => !t | none => false)
  | none => false
theorem op_un (d : Option Nat) (hs : Has n a e) (hc : chkN n ops i e d = true) (hk : ∀ a', Has n a' (e.put d undef) → K a' w) : wpOp P ops Q i K a w := by
  refine wpOp_pstep hs ?_ hk
  unfold chkN at hc
  unfold pstep
  cases ho : ops[i]? with
  | none => rw [ho] at hc; simp at hc
  | some o =>
    rw [ho] at hc
    simp only [Bool.and_eq_true] at hc
    obtain ⟨h1, h2⟩ := hc
    have h3 : wantedE ops e o = some false := by
      cases hw : wantedE ops e o with
      | none => rw [hw] at h2; simp at h2
      | some t => rw [hw] at h2; simp at h2; rw [h2]
    cases d with
    | none => cases hd : o.dst with
      | none => simp only [h3, hd]; rfl
      | some y => rw [hd] at h1; cases h1
    | some x => cases hd : o.dst with
      | none => rw [hd] at h1; cases h1
      | some y =>
        rw [hd] at h1
        simp only [Bool.and_eq_true] at h1
        have h4 := beq_iff.1 h1.1
        subst h4
        simp only [h3, hd, h1.2]
        rfl
/-- A call of a function value that is told. -/
theorem op_callv {f : FuncId} {args : Array Value} (d : Option Nat) (hs : Has n a e) (hc : chk n ops i e d = true) (hq : cvq (opAt ops i) e.rho = some (f, args)) (hcl : Callable P f)
    (hcall : Calls P f args w fun en w' => ∃ v, en = .returned v ∧ ∀ a', Has n a' (e.put d v) → K a' w') : wpOp P ops Q i K a w := op_call d hs hc (cvq_run hq hcl) hcall
end

/-! ### 3. Elements and pointers told again -/

theorem own_conv {m : Mem} {s : Nat} {ad : Addr} {c c' : Nat → Value} {I : Grp} (h : ∀ {z : Base} {w : World} {G : List Grp}, St z w m (I :: G) → ∀ j, j < s → w.cell? (ad.add j) = some (c j)) (he : ∀ j, j < s → c j = c' j) :
    ∀ {z : Base} {w : World} {G : List Grp}, St z w m (I :: G) → ∀ j, j < s → w.cell? (ad.add j) = some (c' j) := fun hst j hj => by rw [h hst j hj, he j hj]
/-- The beginning of an owned row. -/
theorem own_pre {α : Type} {K : Kd α} {bytes : Nat} {E : TypeId} {m : Mem} {a : Option Addr} {cap : Nat} {I : Grp} {xs r : List α} {hi : Int} (h : OwnSl K bytes E m a cap I xs) (hr : W.cut xs 0 hi = some r) :
    OwnSl K bytes E m a cap I r ∧ ∀ {P : Program} {w : World} {o : Oper} {ρ : Operand → Value}, ctq P o ρ = some (a, xs.length, cap, K.size, 0, hi) → (execOp ρ o).run P w = .ok (.value (.slice a r.length cap)) w := by
  obtain ⟨rfl, h0, h1, h2⟩ := cut_some hr
  obtain ⟨hb1, hb2, h3⟩ := h
  have hz : Int.toNat 0 = 0 := rfl
  have hl : ((xs.take hi.toNat).drop (Int.toNat 0)).length = hi.toNat := by rw [hz]; simp; omega
  have hll : hi.toNat ≤ xs.length := by omega
  have hlc : xs.length ≤ cap := by
    rcases h3 with ⟨_, _, h, _⟩ | ⟨_, _, _, _, h, _⟩
    · subst h; simp
    · exact h
  refine ⟨⟨?_, ?_, ?_⟩, fun {P w o ρ} hq => ?_⟩
  · rw [hl]; exact Nat.le_trans (Nat.mul_le_mul_right _ hll) hb1
  · rw [hl]; omega
  · rcases h3 with ⟨ha, hc, hx, hI⟩ | ⟨b, arr, h4, h5, h6, h7, h8, h9⟩
    · subst hx; exact .inl ⟨ha, hc, by simp, hI⟩
    · refine .inr ⟨b, arr, h4, h5, by rw [hl]; omega, h7, h8, ?_⟩
      rw [hl]
      have hle : hi.toNat * K.size ≤ xs.length * K.size := Nat.mul_le_mul_right _ hll
      have hxl : (xs.take hi.toNat).drop (Int.toNat 0) = xs.take hi.toNat := by rw [hz]; rfl
      rw [hxl]
      have htl : (xs.take hi.toNat).length = hi.toNat := by rw [List.length_take]; omega
      have hal : arr.toList.length = arr.size := Array.length_toList
      refine ⟨by rw [List.length_take, htl, hal, h8]; exact Nat.min_eq_left (Nat.le_trans hle (Nat.mul_le_mul_right _ hlc)), fun i hi' => ?_⟩
      have hi2 : i < hi.toNat := by omega
      have hi3 : i < xs.length := by omega
      have h10 := h9.2 i hi3
      rw [List.getElem_take]
      refine K.ext (fun j hj => ?_) h10
      have e1 := mul_slot hi3 hj
      have e2 := mul_slot hi2 hj
      simp only [List.getD_eq_getElem?_getD]
      rw [List.getElem?_take, if_pos e1, List.getElem?_take, if_pos e2]
  · have h10 := ctq_run (w := w) hq (Int.le_refl 0) (by omega) (by omega) hlc
    rw [h10, hl, hz]
    have : a.map (·.add (0 * K.size)) = a := by cases a <;> simp [Addr.add]
    rw [this]
    simp
end Go.Proofs.Ytcnlbnccghjeaaa.W
