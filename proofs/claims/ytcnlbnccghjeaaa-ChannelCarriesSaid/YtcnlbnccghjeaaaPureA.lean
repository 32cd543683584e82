/- The channel, plainly: what its functions come to over lists. Conditions: none. -/
import Derived.Test.YtcnlbnccghjeaaaF7
import Derived.Test.YtcnlbnccghjeaaaLibP
set_option linter.unusedVariables false
set_option linter.unusedSimpArgs false
namespace Go.Proofs.Ytcnlbnccghjeaaa.W
open Go

/-! ### 1. Search, deletion -/

theorem isNaN_spec {x : Int} {Q : Bool → Prop} (h : Q false) : f42 x Q := by unfold f42; simpa using h
theorem isNaN2_spec {x : Int} {Q : Bool → Prop} (h : Q false) : f41 x Q := by unfold f41; simpa using h
theorem less_spec {x y : Int} {Q : Bool → Prop} (h : Q (decide (x < y))) : f40 x y Q := by
  unfold f40; refine isNaN_spec ?_; rw [if_neg (by simp)]; exact h

theorem search_loop {xs : List Int} {t : Int} (hs : xs.Pairwise (· < ·)) (hl : xs.length ≤ 1000000) {k1 : Int → Prop} {n : Int}
    (hk : ∀ i : Nat, i ≤ xs.length → (∀ j (h : j < xs.length), j < i → xs[j] < t) → (∀ j (h : j < xs.length), i ≤ j → t ≤ xs[j]) → k1 i) :
    ∀ (d i j : Nat), d = j - i → i ≤ j → j ≤ xs.length → (∀ a (h : a < xs.length), a < i → xs[a] < t) → (∀ a (h : a < xs.length), j ≤ a → t ≤ xs[a]) → f38_l1 xs t n k1 (i : Int) (j : Int) := by
  intro d i j hd hij hj hlo hhi X hX
  induction d using Nat.strongRecOn generalizing i j with
  | ind d ih =>
    apply hX
    unfold f38_l1_b
    by_cases hlt : i < j
    · rw [if_pos (by omega)]
      have hm : IntKind.wrap .i64 (Int.fdiv (IntKind.wrap .u64 (w64 ((i : Int) + j))) (2 ^ 1)) = (((i + j) / 2 : Nat) : Int) := by
        rw [w64_eq (by omega) (by omega), wrapU (by omega) (by omega), Int.fdiv_eq_ediv_of_nonneg _ (by decide), wrapI (by omega) (by omega)]
        omega
      rw [hm]
      refine ofO_ix ((i + j) / 2) rfl (by omega) ?_
      refine less_spec ?_
      by_cases hc : xs[(i + j) / 2]'(by omega) < t
      · rw [if_pos (by simpa using hc)]
        unfold f38_j2
        rw [show w64 (((((i + j) / 2 : Nat) : Int)) + 1) = (((i + j) / 2 + 1 : Nat) : Int) by rw [w64_eq (by omega) (by omega)]; omega]
        refine ih _ ?_ _ _ rfl (by omega) hj (fun a ha hai => ?_) hhi
        · omega
        · rcases Nat.lt_or_ge a ((i + j) / 2) with h1 | h1
          · have := List.pairwise_iff_getElem.1 hs a ((i + j) / 2) ha (by omega) h1
            omega
          · have : a = (i + j) / 2 := by omega
            subst this; exact hc
      · rw [if_neg (by simpa using hc)]
        unfold f38_j2
        refine ih _ ?_ _ _ rfl (by omega) (by omega) hlo (fun a ha hai => ?_)
        · omega
        · rcases Nat.lt_or_ge ((i + j) / 2) a with h1 | h1
          · have := List.pairwise_iff_getElem.1 hs ((i + j) / 2) a (by omega) ha h1
            omega
          · have : a = (i + j) / 2 := by omega
            subst this; omega
    · have : i = j := by omega
      subst this
      rw [if_neg (by omega)]
      exact hk i hj hlo hhi
theorem search_spec {xs : List Int} {t : Int} (hs : xs.Pairwise (· < ·)) (hl : xs.length ≤ 1000000) {Q : Int × Bool → Prop}
    (h1 : ∀ (i : Nat) (h : i < xs.length), xs[i] = t → Q (i, true)) (h2 : ∀ i : Int, t ∉ xs → Q (i, false)) : f38 xs t Q := by
  unfold f38
  refine search_loop hs hl (fun i hi hlo hhi => ?_) xs.length 0 xs.length rfl (by omega) (Nat.le_refl _) (fun a h ha => by omega) (fun a h ha => by omega)
  by_cases hlt : i < xs.length
  · rw [if_pos (by omega)]
    refine ofO_ix i rfl hlt ?_
    by_cases he : xs[i] = t
    · rw [if_pos he]; exact h1 i hlt he
    · rw [if_neg he]
      refine ofO_ix i rfl hlt (isNaN2_spec ?_)
      rw [if_neg (by simp)]
      refine h2 _ fun hm => ?_
      obtain ⟨j, hj, rfl⟩ := List.mem_iff_getElem.1 hm
      rcases Nat.lt_or_ge j i with h | h
      · have := hlo j hj h; omega
      · rcases Nat.lt_or_ge i j with h' | h'
        · have h3 := List.pairwise_iff_getElem.1 hs i j hlt hj h'
          have h4 := hhi i hlt (Nat.le_refl _)
          omega
        · have : i = j := by omega
          subst this; exact he rfl
  · rw [if_neg (by omega)]
    refine h2 _ fun hm => ?_
    obtain ⟨j, hj, rfl⟩ := List.mem_iff_getElem.1 hm
    have := hlo j hj (by omega)
    omega
theorem delete_spec {xs : List Int} {i : Nat} (hi : i < xs.length) (hl : xs.length ≤ 1000000) {Q : List Int → Prop} (h : Q (xs.take i ++ xs.drop (i + 1))) : f39 xs (i : Int) (w64 ((i : Int) + 1)) Q := by
  unfold f39
  have he : w64 ((i : Int) + 1) = ((i + 1 : Nat) : Int) := by rw [w64_eq (by omega) (by omega)]; omega
  rw [he]
  refine ofO_cut3 i (i + 1) xs.length rfl rfl rfl (by omega) (by omega) (Nat.le_refl _) ?_
  rw [if_neg (by omega)]
  refine ofO_cut 0 i rfl rfl (by omega) (by omega) ?_
  refine ofO_cut (i + 1) xs.length rfl rfl (by omega) (Nat.le_refl _) ?_
  refine ofO_appSelf ?_ ?_
  · simp; omega
  · simpa using h
theorem clone_spec {xs : List Int} (hl : xs.length ≤ 1000000) {Q : List Int → Prop} (h : Q xs) : f27 xs Q := by
  unfold f27
  refine anyNil_of (fun h0 => ?_) ?_
  · subst h0; unfold f27_j1; rw [if_pos rfl]; exact h
  · unfold f27_j1; rw [if_neg (by simp)]
    exact ofO_app (by simp [reach]; omega) (by simp [reach]; omega) (by simpa using h)

/-! ### 2. Lists of keys and values with different keys -/

theorem mget_none {ν : Type} : ∀ {l : List (Int × ν)} {k : Int}, k ∉ l.map (·.1) → mget l k = none
  | [], _, _ => rfl
  | (a, v) :: r, k, h => by
    simp only [List.map_cons, List.mem_cons, not_or] at h
    have : (a == k) = false := by simpa using fun e => h.1 e.symm
    simp [mget, this, mget_none h.2]
theorem mget_mem {ν : Type} : ∀ {l : List (Int × ν)} {k : Int} {v : ν}, mget l k = some v → (k, v) ∈ l
  | (a, u) :: r, k, v, h => by
    simp only [mget] at h
    split at h
    · rename_i hk; simp at hk; injection h with h; subst h hk; simp
    · exact List.mem_cons_of_mem _ (mget_mem h)
theorem mget_of_mem {ν : Type} : ∀ {l : List (Int × ν)} {k : Int} {v : ν}, (l.map (·.1)).Nodup → (k, v) ∈ l → mget l k = some v
  | (a, u) :: r, k, v, hn, h => by
    simp only [List.map_cons, List.nodup_cons] at hn
    rcases List.mem_cons.1 h with h | h
    · injection h with h1 h2; subst h1 h2; simp [mget]
    · have : a ≠ k := fun e => hn.1 (by subst e; exact List.mem_map.2 ⟨_, h, rfl⟩)
      have : (a == k) = false := by simpa using this
      simp [mget, this, mget_of_mem hn.2 h]
theorem mget_iff {ν : Type} {l : List (Int × ν)} {k : Int} : (∃ v, mget l k = some v) ↔ k ∈ l.map (·.1) := by
  constructor
  · rintro ⟨v, h⟩; exact List.mem_map.2 ⟨_, mget_mem h, rfl⟩
  · intro h
    cases hg : mget l k with
    | some v => exact ⟨v, rfl⟩
    | none =>
      exfalso
      induction l with
      | nil => simp at h
      | cons p r ih =>
        obtain ⟨a, u⟩ := p
        simp only [mget] at hg
        split at hg
        · cases hg
        · rename_i hk
          simp only [List.map_cons, List.mem_cons] at h
          rcases h with h | h
          · subst h; simp at hk
          · exact ih h hg
theorem mset_new {ν : Type} : ∀ {l : List (Int × ν)} {k : Int} {v : ν}, k ∉ l.map (·.1) → mset l k v = l ++ [(k, v)]
  | [], _, _, _ => rfl
  | (a, u) :: r, k, v, h => by
    simp only [List.map_cons, List.mem_cons, not_or] at h
    have : (a == k) = false := by simpa using fun e => h.1 e.symm
    simp [mset, this, mset_new h.2]
theorem mset_old {ν : Type} : ∀ {l : List (Int × ν)} {k : Int} {v : ν}, (l.map (·.1)).Nodup → k ∈ l.map (·.1) → mset l k v = l.map fun p => if p.1 = k then (k, v) else p
  | (a, u) :: r, k, v, hn, h => by
    simp only [List.map_cons, List.nodup_cons] at hn
    by_cases hk : a = k
    · subst hk
      simp only [mset, beq_self_eq_true, if_true, List.map_cons]
      congr 1
      have h0 : (r.map fun p => if p.1 = a then (a, v) else p) = r.map id := List.map_congr_left fun p hp => by
        have : p.1 ≠ a := fun e => hn.1 (List.mem_map.2 ⟨p, hp, e⟩)
        simp [this]
      rw [h0, List.map_id]
    · have hb : (a == k) = false := by simpa using hk
      have hm : k ∈ r.map (·.1) := by
        simp only [List.map_cons, List.mem_cons] at h
        rcases h with h | h
        · exact absurd h.symm hk
        · exact h
      simp [mset, hb, hk, mset_old hn.2 hm]
theorem mdel_filter {ν : Type} : ∀ {l : List (Int × ν)} {k : Int}, (l.map (·.1)).Nodup → mdel l k = l.filter fun p => p.1 != k
  | [], _, _ => rfl
  | (a, u) :: r, k, hn => by
    simp only [List.map_cons, List.nodup_cons] at hn
    by_cases hk : a = k
    · subst hk
      simp only [mdel, beq_self_eq_true, if_true]
      rw [List.filter_cons_of_neg (by simp)]
      refine (List.filter_eq_self.2 fun p hp => ?_).symm
      have : p.1 ≠ a := fun e => hn.1 (List.mem_map.2 ⟨p, hp, e⟩)
      simpa using this
    · have hb : (a == k) = false := by simpa using hk
      simp only [mdel, hb, Bool.false_eq_true, if_false]
      rw [List.filter_cons_of_pos (by simpa using hk), mdel_filter hn.2]
theorem erase_filter : ∀ {xs : List Int} (hn : xs.Nodup) {i : Nat} (hi : i < xs.length), xs.take i ++ xs.drop (i + 1) = xs.filter fun x => x != xs[i]
  | [], _, _, hi => by simp at hi
  | x :: r, hn, 0, hi => by
    rw [List.nodup_cons] at hn
    simp only [List.take_zero, List.nil_append, Nat.zero_add, List.drop_one, List.tail_cons, List.getElem_cons_zero]
    rw [List.filter_cons_of_neg (by simp)]
    refine (List.filter_eq_self.2 fun p hp => ?_).symm
    have : p ≠ x := fun e => hn.1 (e ▸ hp)
    simpa using this
  | x :: r, hn, i + 1, hi => by
    rw [List.nodup_cons] at hn
    simp only [List.length_cons] at hi
    have hr : i < r.length := by omega
    simp only [List.take_succ_cons, List.drop_succ_cons, List.cons_append, List.getElem_cons_succ]
    have hx : x ≠ r[i] := fun e => hn.1 (e ▸ List.getElem_mem hr)
    rw [List.filter_cons_of_pos (by simpa using hx), erase_filter hn.2 hr]
theorem sorted_nodup {xs : List Int} (h : xs.Pairwise (· < ·)) : xs.Nodup := h.imp fun h => by omega
end Go.Proofs.Ytcnlbnccghjeaaa.W
