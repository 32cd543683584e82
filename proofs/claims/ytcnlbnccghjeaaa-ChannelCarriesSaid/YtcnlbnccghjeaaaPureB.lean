/- The channel, plainly: its steps as functions of its state, and what holds of it always. Conditions: none. -/
import Derived.Test.YtcnlbnccghjeaaaPureA
set_option linter.unusedVariables false
set_option linter.unusedSimpArgs false
namespace Go.Proofs.Ytcnlbnccghjeaaa.W
open Go

/-! ### 1. The steps -/

def zC : S36 := ⟨0, 0, ByteArray.empty⟩
def disp (L : Nat) (x : Int) : Bool := decide (1 ≤ x) && decide (x < (L : Int))
def vld (L : Nat) (a b : Int) : Bool := (a == 0 && disp L b) || (b == 0 && disp L a)
def sendR (c : S62) (a b : Int) (fr : ByteArray) : Int × Int × S62 :=
  if vld c.f0.length a b = true then (if (c.f2.length : Int) = 4096 then (0, 14, c) else (c.f3, 0, ⟨c.f0, mset c.f1 c.f3 ⟨a, b, fr⟩, c.f2 ++ [c.f3], c.f3 + 1, c.f4, c.f5⟩)) else (0, 1, c)
def cutR (c : S62) (d : Int) (on : Bool) : Int × S62 := if disp c.f0.length d = true then (0, ⟨c.f0.set d.toNat on, c.f1, c.f2, c.f3, c.f4, c.f5⟩) else (1, c)
def remR (c : S62) (n : Int) : S62 := ⟨c.f0, mdel c.f1 n, c.f2.filter (fun x => x != n), c.f3, c.f4, c.f5⟩
def openB (c : S62) (v : S36) : Bool := !(c.f0.getD (v.f0 + v.f1).toNat false)
def delivR (c : S62) (n : Int) : S36 × Int × S62 := match mget c.f1 n with
  | some v => if openB c v = true then (v, 0, ⟨c.f0, mdel c.f1 n, c.f2.filter (fun x => x != n), c.f3, c.f4 + 1, c.f5⟩) else (zC, 7, c)
  | none => (zC, 8, c)
def dropR (c : S62) (n : Int) : Int × S62 := match mget c.f1 n with
  | some v => (0, ⟨c.f0, mdel c.f1 n, c.f2.filter (fun x => x != n), c.f3, c.f4, c.f5 + 1⟩)
  | none => (8, c)
def repR (c : S62) (n : Int) : Int × Int × S62 := match mget c.f1 n with
  | some v => sendR c v.f0 v.f1 v.f2
  | none => (0, 8, c)
def dmg (s : ByteArray) (i : Int) (b : Int) : ByteArray := s.extract 0 i.toNat ++ lit [u8 b] ++ s.extract (i.toNat + 1) s.size
def damR (c : S62) (n i b : Int) : Int × S62 := match mget c.f1 n with
  | some v => if i < 0 ∨ i ≥ (v.f2.size : Int) then (1, c) else (0, ⟨c.f0, mset c.f1 n ⟨v.f0, v.f1, dmg v.f2 i b⟩, c.f2, c.f3, c.f4, c.f5⟩)
  | none => (8, c)
def readyR (c : S62) : List Int := (c.f1.filter fun p => openB c p.2).map (·.1)
def doR (c : S62) (x : S40) : Int × S36 × Int × S62 :=
  if x.f0 = 0 then ((sendR c x.f1 x.f2 x.f3).1, zC, (sendR c x.f1 x.f2 x.f3).2) else
  if x.f0 = 1 then (0, (delivR c x.f1).1, (delivR c x.f1).2) else
  if x.f0 = 2 then (0, zC, (dropR c x.f1).1, (dropR c x.f1).2) else
  if x.f0 = 3 then ((repR c x.f1).1, zC, (repR c x.f1).2) else
  if x.f0 = 4 then (0, zC, (damR c x.f1 x.f2 x.f4).1, (damR c x.f1 x.f2 x.f4).2) else
  (0, zC, (cutR c x.f1 x.f5).1, (cutR c x.f1 x.f5).2)

/-! ### 2. What holds of a channel always -/

structure WF (n m : Nat) (c : S62) : Prop where
  len : c.f0.length = n + 1
  nle : n ≤ 16
  keys : c.f1.map (·.1) = c.f2
  srt : c.f2.Pairwise (· < ·)
  rng : ∀ x ∈ c.f2, 0 ≤ x ∧ x < c.f3
  frm : ∀ p ∈ c.f1, vld (n + 1) p.2.f0 p.2.f1 = true ∧ p.2.f2.size ≤ 1000
  cap : c.f2.length ≤ 4096
  sum : c.f3 = c.f2.length + c.f4 + c.f5
  pos4 : 0 ≤ c.f4
  pos5 : 0 ≤ c.f5
  small : c.f3 ≤ m
theorem WF.mono {n m m' : Nat} {c : S62} (h : WF n m c) (hm : m ≤ m') : WF n m' c := { h with small := by have := h.small; omega }
theorem WF.nd {n m : Nat} {c : S62} (h : WF n m c) : (c.f1.map (·.1)).Nodup := h.keys ▸ sorted_nodup h.srt
theorem WF.l1 {n m : Nat} {c : S62} (h : WF n m c) : c.f1.length = c.f2.length := by rw [← h.keys, List.length_map]
theorem WF.z {n m : Nat} {c : S62} (h : WF n m c) : 0 ≤ c.f3 := by have := h.sum; have := h.pos4; have := h.pos5; omega
theorem WF.fresh {n m : Nat} {c : S62} (h : WF n m c) : c.f3 ∉ c.f1.map (·.1) := by
  rw [h.keys]; intro hm; have := h.rng _ hm; omega

theorem disp_spec {c : S62} {x : Int} {Q : Bool → Prop} (h : Q (disp c.f0.length x)) : f35 c x Q := by
  unfold f35 disp at *
  split
  · rename_i hx; simpa [hx] using h
  · rename_i hx; have : decide (1 ≤ x) = false := by simpa using hx
    simpa [this] using h
theorem vld_lt {L : Nat} {a b : Int} (h : vld L a b = true) : 0 ≤ a + b ∧ a + b < L := by
  simp [vld, disp] at h; omega

theorem send_spec {n m : Nat} {c : S62} (hw : WF n m c) (hm : m ≤ 1000000) {a b : Int} {fr : ByteArray} {Q : Int × Int × S62 → Prop} (h : Q (sendR c a b fr)) : f21 c a b fr Q := by
  have hz := hw.z
  have hs := hw.small
  have hc := hw.cap
  have h1 := hw.l1
  have key : f21_j1 c a b fr Q (!(vld c.f0.length a b)) := by
    unfold f21_j1
    unfold sendR at h
    by_cases hv : vld c.f0.length a b = true
    · rw [if_pos hv] at h; rw [if_neg (by simp [hv])]
      by_cases hf : (c.f2.length : Int) = 4096
      · rw [if_pos hf] at h ⊢; exact h
      · rw [if_neg hf] at h ⊢
        refine ofO_mput (by unfold reach; omega) (ofO_app (by simp [reach]; omega) (by simp [reach]; omega) ?_)
        rw [w64_eq (by omega) (by omega)]; exact h
    · rw [if_neg hv] at h; rw [if_pos (by simp [hv])]; exact h
  have hd0 : disp c.f0.length 0 = false := by simp [disp]
  unfold f21
  by_cases ha : a = 0
  · rw [if_pos ha]
    refine disp_spec ?_
    by_cases hb : disp c.f0.length b = true
    · rw [if_pos hb]; rwa [show vld c.f0.length a b = true by simp [vld, ha, hb]] at key
    · have hbf : disp c.f0.length b = false := by simpa using hb
      have e : vld c.f0.length a b = false := by simp [vld, ha, hbf, hd0]
      rw [e] at key
      rw [if_neg hb]
      by_cases hb0 : b = 0
      · rw [if_pos hb0]; refine disp_spec ?_; rw [ha, hd0]; rw [ha] at key; exact key
      · rw [if_neg hb0]; exact key
  · rw [if_neg ha]
    have hab : (a == 0) = false := by simpa using ha
    by_cases hb0 : b = 0
    · rw [if_pos hb0]; refine disp_spec ?_; rwa [show vld c.f0.length a b = disp c.f0.length a by simp [vld, hab, hb0]] at key
    · rw [if_neg hb0]; rwa [show vld c.f0.length a b = false by simp [vld, hab, hb0]] at key
theorem send_wf {n m : Nat} {c : S62} (hw : WF n m c) {a b : Int} {fr : ByteArray} (hf : fr.size ≤ 1000) : WF n (m + 1) (sendR c a b fr).2.2 := by
  have hz := hw.z
  unfold sendR
  split
  · rename_i hv
    split
    · exact hw.mono (by omega)
    · rename_i h4
      have hsm := hw.small
      have hsum := hw.sum
      have hcap := hw.cap
      refine ⟨hw.len, hw.nle, ?_, ?_, ?_, ?_, ?_, ?_, hw.pos4, hw.pos5, ?_⟩
      · rw [mset_new hw.fresh]; simp [hw.keys]
      · refine List.pairwise_append.2 ⟨hw.srt, by simp, fun x hx y hy => ?_⟩
        simp at hy; subst hy; exact (hw.rng x hx).2
      · intro x hx
        rcases List.mem_append.1 hx with hx | hx
        · have := hw.rng x hx; simp; omega
        · simp at hx; simp; omega
      · intro p hp
        simp only [] at hp
        rw [mset_new hw.fresh] at hp
        rcases List.mem_append.1 hp with hp | hp
        · exact hw.frm p hp
        · simp at hp; subst hp; rw [hw.len] at hv; exact ⟨hv, hf⟩
      · simp; omega
      · simp; omega
      · simp; omega
  · exact hw.mono (by omega)

theorem cut_spec {n m : Nat} {c : S62} (hw : WF n m c) {d : Int} {on : Bool} {Q : Int × S62 → Prop} (h : Q (cutR c d on)) : f24 c d on Q := by
  unfold f24; refine disp_spec ?_
  unfold cutR at h
  by_cases hd : disp c.f0.length d = true
  · rw [if_pos hd] at h ⊢
    have h0 : 1 ≤ d ∧ d < (c.f0.length : Int) := by simpa [disp] using hd
    exact ofO_ix d.toNat (by omega) (by omega) h
  · rw [if_neg hd] at h ⊢; exact h
theorem cut_wf {n m : Nat} {c : S62} (hw : WF n m c) {d : Int} {on : Bool} : WF n m (cutR c d on).2 := by
  unfold cutR
  split
  · exact { hw with len := by simp [hw.len] }
  · exact hw

theorem rem_spec {n m : Nat} {c : S62} (hw : WF n m c) {k : Int} {Q : S62 → Prop} (h : Q (remR c k)) : f36 c k Q := by
  have hc := hw.cap
  unfold f36
  refine search_spec hw.srt (by omega) (fun i hi he => ?_) (fun i hn => ?_)
  · rw [if_pos rfl]
    refine delete_spec hi (by omega) ?_
    rw [erase_filter (sorted_nodup hw.srt) hi, he]; exact h
  · rw [if_neg (by simp)]
    unfold remR at h
    rw [List.filter_eq_self.2 (fun x hx => by
      have : x ≠ k := fun e => hn (e ▸ hx)
      simpa using this)] at h
    exact h
theorem rem_len {n m : Nat} {c : S62} (hw : WF n m c) {k : Int} (hk : k ∈ c.f2) : (c.f2.filter (fun x => x != k)).length + 1 = c.f2.length := by
  obtain ⟨i, hi, rfl⟩ := List.mem_iff_getElem.1 hk
  rw [← erase_filter (sorted_nodup hw.srt) hi]; simp; omega
theorem rem_wf {n m : Nat} {c : S62} (hw : WF n m c) {k : Int} {p : S62} (hk : k ∈ c.f2) (h0 : p.f0 = c.f0) (h1 : p.f1 = mdel c.f1 k) (h2 : p.f2 = c.f2.filter (fun x => x != k)) (h3 : p.f3 = c.f3)
    (h45 : p.f4 + p.f5 = c.f4 + c.f5 + 1) (h4 : 0 ≤ p.f4) (h5 : 0 ≤ p.f5) : WF n m p := by
  have hl := rem_len hw hk
  have hsm := hw.small
  have hsum := hw.sum
  have hcap := hw.cap
  have hm := mdel_filter (k := k) hw.nd
  refine ⟨by rw [h0]; exact hw.len, hw.nle, ?_, ?_, ?_, ?_, ?_, ?_, h4, h5, ?_⟩
  · rw [h1, h2, hm, ← hw.keys, List.filter_map]; rfl
  · rw [h2]; exact hw.srt.filter _
  · rw [h2, h3]; exact fun x hx => hw.rng x (List.mem_filter.1 hx).1
  · rw [h1, hm]; exact fun q hq => hw.frm q (List.mem_filter.1 hq).1
  · rw [h2]; omega
  · rw [h2, h3]; omega
  · rw [h3]; exact hsm
theorem WF.mem {n m : Nat} {c : S62} (hw : WF n m c) {k : Int} {v : S36} (h : mget c.f1 k = some v) : k ∈ c.f2 := hw.keys ▸ List.mem_map.2 ⟨_, mget_mem h, rfl⟩
theorem open_spec {n m : Nat} {c : S62} (hw : WF n m c) {v : S36} (hv : vld (n + 1) v.f0 v.f1 = true) {Q : Bool → Prop} (h : Q (openB c v)) : f34 c v Q := by
  unfold f34
  have := vld_lt hv
  have hl := hw.len
  have hn := hw.nle
  rw [w64_eq (by omega) (by omega)]
  refine ofO_ix (v.f0 + v.f1).toNat (by omega) (by omega) ?_
  unfold openB at h
  rwa [List.getD_eq_getElem?_getD, List.getElem?_eq_getElem (by omega)] at h
theorem deliv_spec {n m : Nat} {c : S62} (hw : WF n m c) (hm : m ≤ 1000000) {k : Int} {Q : S36 × Int × S62 → Prop} (h : Q (delivR c k)) : f25 c k Q := by
  have hs := hw.small
  have hsum := hw.sum
  have h5 := hw.pos5
  have h4 := hw.pos4
  unfold f25
  unfold delivR at h
  cases hg : mget c.f1 k with
  | none => rw [hg] at h; exact look_none hg h
  | some v =>
    rw [hg] at h
    refine look_some hg ?_
    rw [if_pos rfl]
    refine open_spec hw (hw.frm _ (mget_mem hg)).1 ?_
    simp only [] at h
    by_cases ho : openB c v = true
    · rw [if_pos ho] at h ⊢
      refine rem_spec hw ?_
      rw [w64_eq (by simp [remR]; omega) (by simp [remR]; omega)]; exact h
    · rw [if_neg ho] at h ⊢; exact h
theorem deliv_wf {n m : Nat} {c : S62} (hw : WF n m c) {k : Int} : WF n m (delivR c k).2.2 := by
  have h5 := hw.pos5
  have h4 := hw.pos4
  unfold delivR
  cases hg : mget c.f1 k with
  | none => exact hw
  | some v =>
    simp only []
    split
    · exact rem_wf hw (hw.mem hg) rfl rfl rfl rfl (by simp; omega) (by simp; omega) (by simp; omega)
    · exact hw
theorem drop_spec {n m : Nat} {c : S62} (hw : WF n m c) (hm : m ≤ 1000000) {k : Int} {Q : Int × S62 → Prop} (h : Q (dropR c k)) : f26 c k Q := by
  have hs := hw.small
  have hsum := hw.sum
  have h5 := hw.pos5
  have h4 := hw.pos4
  unfold f26
  unfold dropR at h
  cases hg : mget c.f1 k with
  | none => rw [hg] at h; exact look_none hg h
  | some v =>
    rw [hg] at h
    refine look_some hg ?_
    rw [if_pos rfl]
    refine rem_spec hw ?_
    rw [w64_eq (by simp [remR]; omega) (by simp [remR]; omega)]; exact h
theorem drop_wf {n m : Nat} {c : S62} (hw : WF n m c) {k : Int} : WF n m (dropR c k).2 := by
  have h5 := hw.pos5
  have h4 := hw.pos4
  unfold dropR
  cases hg : mget c.f1 k with
  | none => exact hw
  | some v => exact rem_wf hw (hw.mem hg) rfl rfl rfl rfl (by simp; omega) (by simp; omega) (by simp; omega)
theorem rep_spec {n m : Nat} {c : S62} (hw : WF n m c) (hm : m ≤ 1000000) {k : Int} {Q : Int × Int × S62 → Prop} (h : Q (repR c k)) : f22 c k Q := by
  unfold f22
  unfold repR at h
  cases hg : mget c.f1 k with
  | none => rw [hg] at h; exact look_none hg h
  | some v =>
    rw [hg] at h
    refine look_some hg ?_
    rw [if_pos rfl]
    exact send_spec hw hm h
theorem rep_wf {n m : Nat} {c : S62} (hw : WF n m c) {k : Int} : WF n (m + 1) (repR c k).2.2 := by
  unfold repR
  cases hg : mget c.f1 k with
  | none => exact hw.mono (by omega)
  | some v => exact send_wf hw (hw.frm _ (mget_mem hg)).2
theorem dmg_size {s : ByteArray} {i b : Int} (h1 : 0 ≤ i) (h2 : i < (s.size : Int)) : (dmg s i b).size = s.size := by
  have : (lit [u8 b]).size = 1 := rfl
  unfold dmg; simp [ByteArray.size_append, ByteArray.size_extract, this]; omega
theorem dam_spec {n m : Nat} {c : S62} (hw : WF n m c) {k i b : Int} {Q : Int × S62 → Prop} (h : Q (damR c k i b)) : f23 c k i b Q := by
  have hc := hw.cap
  have hl := hw.l1
  unfold f23
  unfold damR at h
  cases hg : mget c.f1 k with
  | none => rw [hg] at h; exact look_none hg h
  | some v =>
    rw [hg] at h
    have hsz := (hw.frm _ (mget_mem hg)).2
    simp only [] at h hsz
    refine look_some hg ?_
    rw [if_pos rfl]
    by_cases h0 : i < 0
    · rw [if_pos (Or.inl h0)] at h; rw [if_pos h0]; unfold f23_j1; rw [if_pos rfl]; exact h
    · rw [if_neg h0]; unfold f23_j1
      by_cases h1 : i ≥ (v.f2.size : Int)
      · rw [if_pos (Or.inr h1)] at h; rw [if_pos (by simpa using h1)]; exact h
      · rw [if_neg (by omega)] at h; rw [if_neg (by simpa using h1)]
        have e0 : scut v.f2 0 i = some (v.f2.extract 0 i.toNat) := by unfold scut; rw [if_pos (by omega)]; rfl
        have e1 : scut v.f2 (w64 (i + 1)) (v.f2.size : Int) = some (v.f2.extract (i.toNat + 1) v.f2.size) := by
          rw [w64_eq (by omega) (by omega)]; unfold scut; rw [if_pos (by omega)]
          rw [show (i + 1).toNat = i.toNat + 1 by omega]; simp
        have l1 : (lit [u8 b]).size = 1 := rfl
        have e2 : scat (v.f2.extract 0 i.toNat) (lit [u8 b]) = some (v.f2.extract 0 i.toNat ++ lit [u8 b]) := by
          unfold scat; rw [if_pos (by simp [ByteArray.size_extract, l1, reach]; omega)]
        have e3 : scat (v.f2.extract 0 i.toNat ++ lit [u8 b]) (v.f2.extract (i.toNat + 1) v.f2.size) = some (dmg v.f2 i b) := by
          unfold scat; rw [if_pos (by simp [ByteArray.size_extract, ByteArray.size_append, l1, reach]; omega)]; rfl
        refine ⟨_, e0, _, e1, _, e2, _, e3, ofO_mput (by unfold reach; omega) h⟩
theorem dam_wf {n m : Nat} {c : S62} (hw : WF n m c) {k i b : Int} : WF n m (damR c k i b).2 := by
  unfold damR
  cases hg : mget c.f1 k with
  | none => exact hw
  | some v =>
    simp only []
    split
    · exact hw
    · rename_i hi
      have hv := hw.frm _ (mget_mem hg)
      have hk : k ∈ c.f1.map (·.1) := List.mem_map.2 ⟨_, mget_mem hg, rfl⟩
      refine { hw with keys := ?_, frm := ?_ }
      · simp only []
        rw [mset_old hw.nd hk, ← hw.keys, List.map_map]
        refine List.map_congr_left fun p hp => ?_
        simp only [Function.comp]; split
        · rename_i he; exact he.symm
        · rfl
      · intro p hp
        simp only [] at hp
        rw [mset_old hw.nd hk] at hp
        obtain ⟨q, hq, rfl⟩ := List.mem_map.1 hp
        split
        · refine ⟨hv.1, ?_⟩
          simp only []
          rw [dmg_size (by omega) (by omega)]; exact hv.2
        · exact hw.frm q hq
theorem do_spec {n m : Nat} {c : S62} (hw : WF n m c) (hm : m ≤ 1000000) {x : S40} {Q : Int × S36 × Int × S62 → Prop} (h : Q (doR c x)) : f15 c x Q := by
  unfold f15
  unfold doR at h
  split
  · rename_i h0; rw [if_pos h0] at h; exact send_spec hw hm h
  rename_i h0; rw [if_neg h0] at h
  split
  · rename_i h1; rw [if_pos h1] at h; exact deliv_spec hw hm h
  rename_i h1; rw [if_neg h1] at h
  split
  · rename_i h2; rw [if_pos h2] at h; exact drop_spec hw hm h
  rename_i h2; rw [if_neg h2] at h
  split
  · rename_i h3; rw [if_pos h3] at h; exact rep_spec hw hm h
  rename_i h3; rw [if_neg h3] at h
  split
  · rename_i h4; rw [if_pos h4] at h; exact dam_spec hw h
  rename_i h4; rw [if_neg h4] at h
  exact cut_spec hw h
theorem do_wf {n m : Nat} {c : S62} (hw : WF n m c) {x : S40} (hx : x.f3.size ≤ 1000) : WF n (m + 1) (doR c x).2.2.2 := by
  unfold doR
  split
  · exact send_wf hw hx
  split
  · exact deliv_wf (hw.mono (by omega))
  split
  · exact drop_wf (hw.mono (by omega))
  split
  · exact rep_wf hw
  split
  · exact dam_wf (hw.mono (by omega))
  exact cut_wf (hw.mono (by omega))
theorem counts_spec {c : S62} {Q : Int × Int × Int → Prop} (h : Q (c.f3, c.f4, c.f5)) : f11 c Q := h
theorem pending_spec {n m : Nat} {c : S62} (hw : WF n m c) {Q : List Int → Prop} (h : Q c.f2) : f12 c Q := clone_spec (by have := hw.cap; omega) h
theorem new_spec {n : Int} {Q : Option S62 × Int → Prop} (h : Q (if 1 ≤ n ∧ n ≤ 16 then (some ⟨List.replicate (n.toNat + 1) false, [], [], 0, 0, 0⟩, 0) else (none, 1))) : f10 n Q := by
  unfold f10 f10_j1
  split
  · rw [if_pos rfl]; rwa [if_neg (by omega)] at h
  · by_cases h2 : n > 16
    · rw [if_pos (by simpa using h2)]; rwa [if_neg (by omega)] at h
    · rw [if_neg (by simpa using h2)]; rw [if_pos (by omega)] at h
      exact ofO_mk (n.toNat + 1) (by rw [w64_eq (by omega) (by omega)]; omega) (by unfold reach; omega) (by unfold reach; omega) h
theorem new_wf {n : Nat} (h : n ≤ 16) : WF n 0 ⟨List.replicate (n + 1) false, [], [], 0, 0, 0⟩ := by
  refine ⟨by simp, h, rfl, by simp, by simp, by simp, by simp, by simp, by simp, by simp, by simp⟩
end Go.Proofs.Ytcnlbnccghjeaaa.W
