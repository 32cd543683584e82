/- The plain side: the words of the printed functions, told shortly. Conditions: none. -/
import Derived.Test.YtcnlbnccghjeaaaLibL
set_option linter.unusedVariables false
set_option linter.unusedSimpArgs false
namespace Go.Proofs.Ytcnlbnccghjeaaa.W
open Go

/-! ### 1. Numbers -/

theorem w64_eq {x : Int} (h1 : -9223372036854775808 ≤ x) (h2 : x ≤ 9223372036854775807) : w64 x = x := by
  unfold w64; simp [IntKind.wrap, IntKind.bits, IntKind.signed]; omega
theorem w64_in (x : Int) : InR .i64 (w64 x) := wrap_in .i64 x
theorem w64_inc {i n : Nat} (h : i < n) (hn : n ≤ reach) : w64 ((i : Int) + 1) = ((i + 1 : Nat) : Int) := by
  unfold reach at hn; rw [w64_eq (by omega) (by omega)]; omega
theorem wrapU {x : Int} (h1 : 0 ≤ x) (h2 : x ≤ 18446744073709551615) : IntKind.wrap .u64 x = x := by
  simp [IntKind.wrap, IntKind.bits, IntKind.signed]; omega
theorem wrapI {x : Int} (h1 : -9223372036854775808 ≤ x) (h2 : x ≤ 9223372036854775807) : IntKind.wrap .i64 x = x := w64_eq h1 h2
theorem reach_lt : reach < 9223372036854775807 := by unfold reach; omega

/-! ### 2. Rows -/

theorem ix_nat {α : Type} (xs : List α) (i : Nat) : ix xs (i : Int) = xs[i]? := by simp [ix]
theorem ofO_ix {α : Type} {xs : List α} {i : Int} {Q : α → Prop} (j : Nat) (hi : i = j) (h : j < xs.length) (hq : Q xs[j]) : ofO (ix xs i) Q := by
  subst hi; exact ⟨_, by rw [ix_nat, List.getElem?_eq_getElem h], hq⟩
theorem ofO_app {α : Type} {b : Nat} {xs ys : List α} {Q : List α → Prop} (h1 : (xs.length + ys.length) * b ≤ reach) (h2 : xs.length + ys.length ≤ reach) (hq : Q (xs ++ ys)) : ofO (app b xs ys) Q :=
  ⟨_, by unfold app; rw [if_pos ⟨h1, h2⟩], hq⟩
theorem ofO_mk {α : Type} {b : Nat} {n : Int} {x : α} {Q : List α → Prop} (k : Nat) (hn : n = k) (h1 : k * b ≤ reach) (h2 : k ≤ reach) (hq : Q (List.replicate k x)) : ofO (mk b n x) Q := by
  subst hn; exact ⟨_, by unfold mk; rw [if_pos ⟨by omega, by simpa using h1, by simpa using h2⟩], by simpa using hq⟩
theorem ofO_cut {α : Type} {xs : List α} {lo hi : Int} {Q : List α → Prop} (a b : Nat) (ha : lo = a) (hb : hi = b) (h1 : a ≤ b) (h2 : b ≤ xs.length) (hq : Q ((xs.take b).drop a)) : ofO (cut xs lo hi) Q := by
  subst ha hb; exact ⟨_, by unfold cut; rw [if_pos ⟨by omega, by omega, by omega⟩], by simpa using hq⟩
theorem ofO_cut3 {α : Type} {xs : List α} {lo hi mx : Int} {Q : List α → Prop} (a b c : Nat) (ha : lo = a) (hb : hi = b) (hc : mx = c) (h1 : a ≤ b) (h2 : b ≤ c) (h3 : c ≤ xs.length) (hq : Q ((xs.take b).drop a)) : ofO (cut3 xs lo hi mx) Q := by
  subst ha hb hc; exact ⟨_, by unfold cut3; rw [if_pos ⟨by omega, by omega, by omega, by omega, by omega⟩], by simpa using hq⟩
theorem ofO_appSelf {α : Type} {lo : Int} {ys zs : List α} {Q : List α → Prop} (h : (ys.length : Int) ≤ lo) (hq : Q (ys ++ zs)) : ofO (appSelf lo ys zs) Q := ⟨_, by unfold appSelf; rw [if_pos h], hq⟩
theorem ofO_mput {κ ν : Type} [BEq κ] {kvs : List (κ × ν)} {k : κ} {v : ν} {Q : List (κ × ν) → Prop} (h : kvs.length + 1 ≤ reach) (hq : Q (mset kvs k v)) : ofO (mput kvs k v) Q := ⟨_, by unfold mput; rw [if_pos h], hq⟩
theorem look_some {κ ν : Type} [BEq κ] {kvs : List (κ × ν)} {k : κ} {z v : ν} {Q : ν → Bool → Prop} (h : mget kvs k = some v) (hq : Q v true) : look kvs k z Q := by unfold look; rw [h]; exact hq
theorem look_none {κ ν : Type} [BEq κ] {kvs : List (κ × ν)} {k : κ} {z : ν} {Q : ν → Bool → Prop} (h : mget kvs k = none) (hq : Q z false) : look kvs k z Q := by unfold look; rw [h]; exact hq
theorem anyNil_of {α : Type} {xs : List α} {A B : Prop} (h1 : xs = [] → A) (h2 : B) : anyNil xs A B := ⟨h1, h2⟩

/-! ### 3. Strings -/

theorem strEq_iff {s t : ByteArray} : strEq s t = true ↔ s = t := by
  unfold strEq
  rw [← beq_toListBytes]
  exact beq_iff_eq
theorem toListEq_iff {s t : ByteArray} : (s.toList == t.toList) = true ↔ s = t := strEq_iff
end Go.Proofs.Ytcnlbnccghjeaaa.W
