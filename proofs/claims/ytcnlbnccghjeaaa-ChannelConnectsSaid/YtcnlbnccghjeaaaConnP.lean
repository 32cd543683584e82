/- The channel with every display connected, plainly: all that is under way can be delivered, in any order, once. Conditions: none. -/
import Derived.Test.YtcnlbnccghjeaaaLChannelConnects
import Derived.Test.YtcnlbnccghjeaaaPureC
set_option linter.unusedVariables false
set_option linter.unusedSimpArgs false
namespace Go.Proofs.Ytcnlbnccghjeaaa.W
open Go
/-- Every display that is there, connected. -/
def Con (c : S62) (i : Nat) : Prop := ∀ j : Nat, 1 ≤ j → j < i → c.f0.getD j false = false
theorem con_open {n m : Nat} {c : S62} (hw : WF n m c) (hc : Con c (n + 1)) {v : S36} (hv : vld (n + 1) v.f0 v.f1 = true) : openB c v = true := by
  unfold openB
  have : 1 ≤ v.f0 + v.f1 ∧ v.f0 + v.f1 < ((n + 1 : Nat) : Int) := by simp [vld, disp] at hv; omega
  rw [hc _ (by omega) (by omega)]; rfl
theorem con_cut {n m : Nat} {c : S62} (hw : WF n m c) {i : Nat} (h1 : 1 ≤ i) (h2 : i ≤ n) (hc : Con c i) : (cutR c i false).1 = 0 ∧ Con (cutR c i false).2 (i + 1) := by
  have hl := hw.len
  unfold cutR
  rw [if_pos (by simp [disp]; omega)]
  refine ⟨rfl, fun j hj1 hj2 => ?_⟩
  simp only [Int.toNat_natCast]
  rw [List.getD_eq_getElem?_getD]
  by_cases h : j = i
  · subst h; rw [List.getElem?_set_self (by omega)]; rfl
  · rw [List.getElem?_set_ne (by omega), ← List.getD_eq_getElem?_getD]; exact hc j hj1 (by omega)
theorem mget_mdel_self {ν : Type} {l : List (Int × ν)} {k : Int} (hn : (l.map (·.1)).Nodup) : mget (mdel l k) k = none := by
  refine mget_none ?_
  rw [mdel_filter hn]
  intro h
  obtain ⟨p, hp, e⟩ := List.mem_map.1 h
  have := (List.mem_filter.1 hp).2
  simp [e] at this
theorem con_deliv {n m : Nat} {c : S62} (hw : WF n m c) (hc : Con c (n + 1)) {k : Int} (hk : k ∈ c.f2) :
    (delivR c k).2.1 = 0 ∧ Con (delivR c k).2.2 (n + 1) ∧ (delivR c k).2.2.f2.length + 1 = c.f2.length ∧ (delivR (delivR c k).2.2 k) = (zC, 8, (delivR c k).2.2) := by
  obtain ⟨v, hv⟩ := mget_iff.2 (show k ∈ c.f1.map (·.1) by rw [hw.keys]; exact hk)
  have ho := con_open hw hc (hw.frm _ (mget_mem hv)).1
  have e : delivR c k = (v, 0, ⟨c.f0, mdel c.f1 k, c.f2.filter (fun x => x != k), c.f3, c.f4 + 1, c.f5⟩) := by
    unfold delivR; rw [hv]; simp only []; rw [if_pos ho]
  rw [e]
  refine ⟨rfl, hc, rem_len hw hk, ?_⟩
  unfold delivR
  simp only [mget_mdel_self hw.nd]
theorem conn_ops {n : Nat} {ds : Int} {list : List S40} {ord : List Int} (hs : ∀ x ∈ list, x.f3.size ≤ 100) (hl : list.length ≤ 1000) {k1 : Option S62 → Prop} (hk : ∀ c, WF n list.length c → k1 (some c)) :
    ∀ d i c, d = list.length - i → i ≤ list.length → WF n i c → f7_l2 ds list ord k1 (some c) (i : Int) := by
  intro d
  induction d with
  | zero =>
    intro i c hd hi hw X hX
    apply hX; unfold f7_l2_b
    rw [if_neg (by omega)]
    exact hk c (hw.mono hi)
  | succ d ih =>
    intro i c hd hi hw X hX
    apply hX; unfold f7_l2_b
    have hlt : i < list.length := by omega
    rw [if_pos (by omega)]
    refine ofO_ix i rfl hlt ?_
    unfold onPtr
    simp only []
    have hx := hs _ (List.getElem_mem hlt)
    refine do_spec hw (by omega) ?_
    rw [w64_eq (by omega) (by omega)]
    exact ih (i + 1) _ (by omega) (by omega) (do_wf hw (by omega)) X hX
theorem conn_cuts {n m : Nat} {ord : List Int} {k1 : Option S62 → Prop} {Q : Bool → Prop} (hk : ∀ c, WF n m c → Con c (n + 1) → k1 (some c)) :
    ∀ d i c, d = n + 1 - i → i ≤ n + 1 → 1 ≤ i → WF n m c → Con c i → f7_l3 (n : Int) ord k1 Q (some c) (i : Int) := by
  intro d
  induction d with
  | zero =>
    intro i c hd hi h1 hw hc X hX
    apply hX; unfold f7_l3_b
    rw [if_neg (by omega)]
    exact hk c hw (by have : i = n + 1 := by omega
                      subst this; exact hc)
  | succ d ih =>
    intro i c hd hi h1 hw hc X hX
    apply hX; unfold f7_l3_b
    have hn := hw.nle
    rw [if_pos (by omega)]
    unfold onPtr
    simp only []
    obtain ⟨e1, e2⟩ := con_cut hw h1 (by omega) hc
    refine cut_spec hw ?_
    rw [if_pos e1, w64_eq (by omega) (by omega)]
    exact ih (i + 1) _ (by omega) (by omega) (by omega) (cut_wf hw) e2 X hX
theorem conn_all {n m : Nat} (hm : m ≤ 1000) {ord : List Int} (hord : ∀ x ∈ ord, InR .i64 x) {Q : Bool → Prop} (hq : Q true) :
    ∀ (d i : Nat) (c : S62), d = c.f2.length → i + c.f2.length ≤ 5000 → WF n m c → Con c (n + 1) → f7_l4 ord Q (some c) (i : Int) := by
  intro d
  induction d with
  | zero =>
    intro i c hd hi hw hc X hX
    apply hX; unfold f7_l4_b onPtr
    simp only []
    refine pending_spec hw ?_
    rw [if_pos (by omega)]
    refine ready_spec hw ?_
    have : c.f1 = [] := List.eq_nil_of_length_eq_zero (by rw [hw.l1]; omega)
    have : readyR c = [] := by unfold readyR; rw [this]; rfl
    rw [this]; exact hq
  | succ d ih =>
    intro i c hd hi hw hc X hX
    apply hX; unfold f7_l4_b onPtr
    simp only []
    refine pending_spec hw ?_
    rw [if_neg (by omega)]
    have key : ∀ k : Int, 0 ≤ k → k < c.f2.length → f7_j5 ord Q X c i c.f2 k := fun k h0 h1 => by
      have hlt : k.toNat < c.f2.length := by omega
      obtain ⟨e1, e2, e3, e4⟩ := con_deliv hw hc (List.getElem_mem hlt)
      have hw' := deliv_wf hw (k := c.f2[k.toNat])
      unfold f7_j5
      refine ofO_ix k.toNat (by omega) hlt (deliv_spec hw (by omega) ?_)
      rw [if_pos e1]
      refine pending_spec hw' ?_
      unfold f7_j6
      rw [w64_eq (by omega) (by omega), if_neg (by simp; omega)]
      refine ofO_ix k.toNat (by omega) hlt (deliv_spec hw' (by omega) ?_)
      rw [e4, if_pos rfl, w64_eq (by omega) (by omega)]
      exact ih (i + 1) _ (by omega) (by omega) hw' e2 X hX
    split
    · rename_i hio
      have hio' : i < ord.length := by omega
      refine ofO_ix i rfl hio' ?_
      have hne : (c.f2.length : Int) ≠ 0 := by omega
      have hpos : (0 : Int) < c.f2.length := by omega
      have hb := Int.tmod_lt_of_pos ord[i] hpos
      have hb2 : -(c.f2.length : Int) < ord[i].tmod (c.f2.length : Int) := by
        have h3 := Int.tmod_lt_of_pos (-ord[i]) hpos
        rw [Int.neg_tmod] at h3; omega
      refine ⟨_, by unfold remI; rw [if_neg hne], ?_⟩
      dsimp only
      split
      · rw [w64_eq (by omega) (by omega)]; exact key _ (by omega) (by omega)
      · exact key _ (by omega) (by omega)
    · exact key 0 (by omega) (by omega)
theorem conn_pure : PureChannelConnects := by
  intro x0 x1 x2 _ _ h2
  unfold f7
  refine awake_ok ?_
  rw [if_pos rfl]
  refine new_spec ?_
  by_cases h : 1 ≤ x0 ∧ x0 ≤ 16
  · rw [if_pos h]
    dsimp only
    rw [if_pos rfl]
    refine small_spec (by omega) ?_
    unfold f7_j1
    by_cases hs : smallB x1 40 = true
    · rw [hs, if_neg (by simp)]
      obtain ⟨hl, hx⟩ := small_of hs
      obtain ⟨n, rfl⟩ : ∃ n : Nat, x0 = n := ⟨x0.toNat, by omega⟩
      refine conn_ops (n := n) (ds := n) (fun x hx' => (hx x hx').1) (by omega) (fun c hw => ?_) x1.length 0 ⟨List.replicate (n + 1) false, [], [], 0, 0, 0⟩ rfl (by omega) (new_wf (n := n) (by omega))
      refine conn_cuts (n := n) (fun c hw hc => ?_) n 1 c (by omega) (by omega) (by omega) hw (fun j h1 h2 => by omega)
      exact conn_all (Q := fun r => r = true) (by omega) (fun x hx => h2.2.2 x hx) rfl c.f2.length 0 c rfl (by have := hw.cap; omega) hw hc
    · rw [if_pos (by simpa using hs)]
  · rw [if_neg h]
    dsimp only
    rw [if_neg (by decide)]
    unfold f7_j1; rw [if_pos rfl]
end Go.Proofs.Ytcnlbnccghjeaaa.W
