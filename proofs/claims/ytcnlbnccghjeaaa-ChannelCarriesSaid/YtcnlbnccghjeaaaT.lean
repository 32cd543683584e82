/- Printed by gen2.py: structs as Lean structures. Conditions: none. -/
import Derived.Test.YtcnlbnccghjeaaaProg
import Derived.Test.YtcnlbnccghjeaaaLibL
set_option linter.unusedVariables false
set_option linter.unusedSimpArgs false
set_option maxRecDepth 100000
namespace Go.Proofs.Ytcnlbnccghjeaaa.W
open Go

@[ext] structure S36 where
  f0 : Int
  f1 : Int
  f2 : ByteArray
def k36 : Kd S36 := ⟨3, true, fun m c x => (kInt .i64).rep m (fun j => c (0 + j)) x.f0 ∧ (kInt .i64).rep m (fun j => c (1 + j)) x.f1 ∧ kStr.rep m (fun j => c (2 + j)) x.f2, by decide, fun h j hj => (if hq : j < 1 then by have := (kInt .i64).one h.1 (j - 0) (show j - 0 < (kInt .i64).size by change j - 0 < 1; omega); simpa only [show 0 + (j - 0) = j by omega] using this else if hq : j < 2 then by have := (kInt .i64).one h.2.1 (j - 1) (show j - 1 < (kInt .i64).size by change j - 1 < 1; omega); simpa only [show 1 + (j - 1) = j by omega] using this else if hq : j < 3 then by have := kStr.one h.2.2 (j - 2) (show j - 2 < kStr.size by change j - 2 < 1; omega); simpa only [show 2 + (j - 2) = j by omega] using this else absurd hj (by change ¬ j < 3; omega)), fun hm h => ⟨(kInt .i64).mono hm h.1, (kInt .i64).mono hm h.2.1, kStr.mono hm h.2.2⟩, fun hc h => ⟨(kInt .i64).ext (fun j hj => hc (0 + j) (Nat.lt_of_lt_of_le (Nat.add_lt_add_left hj 0) (by decide))) h.1, (kInt .i64).ext (fun j hj => hc (1 + j) (Nat.lt_of_lt_of_le (Nat.add_lt_add_left hj 1) (by decide))) h.2.1, kStr.ext (fun j hj => hc (2 + j) (Nat.lt_of_lt_of_le (Nat.add_lt_add_left hj 2) (by decide))) h.2.2⟩⟩
theorem k36_open {m : Mem} {c : Nat → Value} {x : S36} (h : k36.rep m c x) : (∀ j, j < 3 → c j = cells [.int .i64 x.f0, .int .i64 x.f1, .string x.f2] j) ∧ InR .i64 x.f0 ∧ InR .i64 x.f1 ∧ x.f2.size ≤ reach := by
  skip
  refine ⟨?_, (kInt_open h.1).2, (kInt_open h.2.1).2, (kStr_open h.2.2).2⟩
  intro j hj
  match j, hj with
  | 0, _ => exact ((kInt_open h.1).1 0 (by decide))
  | 1, _ => exact ((kInt_open h.2.1).1 0 (by decide))
  | 2, _ => exact ((kStr_open h.2.2).1 0 (by decide))
  | n + 3, hj => omega
theorem k36_mk {m : Mem} {y0 : Int} {y1 : Int} {y2 : ByteArray} (h0 : InR .i64 y0) (h1 : InR .i64 y1) (h2 : y2.size ≤ reach) : k36.rep m (cells [.int .i64 y0, .int .i64 y1, .string y2]) (⟨y0, y1, y2⟩ : S36) := ⟨(kInt .i64).ext (c := cells [.int .i64 y0]) (fun j hj => by have hj : j < 1 := hj; match j, hj with | 0, _ => rfl | n + 1, hj => omega) (kInt_mk h0), (kInt .i64).ext (c := cells [.int .i64 y1]) (fun j hj => by have hj : j < 1 := hj; match j, hj with | 0, _ => rfl | n + 1, hj => omega) (kInt_mk h1), kStr.ext (c := cells [.string y2]) (fun j hj => by have hj : j < 1 := hj; match j, hj with | 0, _ => rfl | n + 1, hj => omega) (kStr_mk h2)⟩
theorem flat_k36 : Flat k36 := fun h => ⟨flat_int h.1, flat_int h.2.1, flat_str h.2.2⟩
theorem Vl36 {m : Mem} {v : Value} {x : S36} (h : Vl k36 m v x) : v = .agg #[.int .i64 x.f0, .int .i64 x.f1, .string x.f2] ∧ InR .i64 x.f0 ∧ InR .i64 x.f1 ∧ x.f2.size ≤ reach := by
  obtain ⟨l, rfl, hl, hr⟩ := h.cellsA rfl
  obtain ⟨e, g0, g1, g2⟩ := k36_open hr
  have : l = [.int .i64 x.f0, .int .i64 x.f1, .string x.f2] := cells_ext _ _ hl (fun j hj => e j (by rw [hl] at hj; exact hj))
  subst this
  exact ⟨rfl, g0, g1, g2⟩
@[ext] structure S62 where
  f0 : (List Bool)
  f1 : (List (Int × S36))
  f2 : (List Int)
  f3 : Int
  f4 : Int
  f5 : Int
def k62 : Kd S62 := ⟨6, true, fun m c x => (kSl kBool 1).rep m (fun j => c (0 + j)) x.f0 ∧ (kMap (Value.int .i64) k36).rep m (fun j => c (1 + j)) x.f1 ∧ (kSl (kInt .i64) 8).rep m (fun j => c (2 + j)) x.f2 ∧ (kInt .i64).rep m (fun j => c (3 + j)) x.f3 ∧ (kInt .i64).rep m (fun j => c (4 + j)) x.f4 ∧ (kInt .i64).rep m (fun j => c (5 + j)) x.f5, by decide, fun h j hj => (if hq : j < 1 then by have := (kSl kBool 1).one h.1 (j - 0) (show j - 0 < (kSl kBool 1).size by change j - 0 < 1; omega); simpa only [show 0 + (j - 0) = j by omega] using this else if hq : j < 2 then by have := (kMap (Value.int .i64) k36).one h.2.1 (j - 1) (show j - 1 < (kMap (Value.int .i64) k36).size by change j - 1 < 1; omega); simpa only [show 1 + (j - 1) = j by omega] using this else if hq : j < 3 then by have := (kSl (kInt .i64) 8).one h.2.2.1 (j - 2) (show j - 2 < (kSl (kInt .i64) 8).size by change j - 2 < 1; omega); simpa only [show 2 + (j - 2) = j by omega] using this else if hq : j < 4 then by have := (kInt .i64).one h.2.2.2.1 (j - 3) (show j - 3 < (kInt .i64).size by change j - 3 < 1; omega); simpa only [show 3 + (j - 3) = j by omega] using this else if hq : j < 5 then by have := (kInt .i64).one h.2.2.2.2.1 (j - 4) (show j - 4 < (kInt .i64).size by change j - 4 < 1; omega); simpa only [show 4 + (j - 4) = j by omega] using this else if hq : j < 6 then by have := (kInt .i64).one h.2.2.2.2.2 (j - 5) (show j - 5 < (kInt .i64).size by change j - 5 < 1; omega); simpa only [show 5 + (j - 5) = j by omega] using this else absurd hj (by change ¬ j < 6; omega)), fun hm h => ⟨(kSl kBool 1).mono hm h.1, (kMap (Value.int .i64) k36).mono hm h.2.1, (kSl (kInt .i64) 8).mono hm h.2.2.1, (kInt .i64).mono hm h.2.2.2.1, (kInt .i64).mono hm h.2.2.2.2.1, (kInt .i64).mono hm h.2.2.2.2.2⟩, fun hc h => ⟨(kSl kBool 1).ext (fun j hj => hc (0 + j) (Nat.lt_of_lt_of_le (Nat.add_lt_add_left hj 0) (by decide))) h.1, (kMap (Value.int .i64) k36).ext (fun j hj => hc (1 + j) (Nat.lt_of_lt_of_le (Nat.add_lt_add_left hj 1) (by decide))) h.2.1, (kSl (kInt .i64) 8).ext (fun j hj => hc (2 + j) (Nat.lt_of_lt_of_le (Nat.add_lt_add_left hj 2) (by decide))) h.2.2.1, (kInt .i64).ext (fun j hj => hc (3 + j) (Nat.lt_of_lt_of_le (Nat.add_lt_add_left hj 3) (by decide))) h.2.2.2.1, (kInt .i64).ext (fun j hj => hc (4 + j) (Nat.lt_of_lt_of_le (Nat.add_lt_add_left hj 4) (by decide))) h.2.2.2.2.1, (kInt .i64).ext (fun j hj => hc (5 + j) (Nat.lt_of_lt_of_le (Nat.add_lt_add_left hj 5) (by decide))) h.2.2.2.2.2⟩⟩
theorem k62_open {m : Mem} {c : Nat → Value} {x : S62} (h : k62.rep m c x) : ∃ (a0 : Option Addr) (c0 : Nat) (r1 : Option Nat) (a2 : Option Addr) (c2 : Nat), (∀ j, j < 6 → c j = cells [.slice a0 x.f0.length c0, .map r1, .slice a2 x.f2.length c2, .int .i64 x.f3, .int .i64 x.f4, .int .i64 x.f5] j) ∧ Sl kBool 1 m a0 c0 x.f0 ∧ ImmM (Value.int .i64) k36 m r1 x.f1 ∧ Sl (kInt .i64) 8 m a2 c2 x.f2 ∧ InR .i64 x.f3 ∧ InR .i64 x.f4 ∧ InR .i64 x.f5 := by
  obtain ⟨a0, c0, e0, g0⟩ := kSl_open h.1
  obtain ⟨r1, e1, g1⟩ := kMap_open h.2.1
  obtain ⟨a2, c2, e2, g2⟩ := kSl_open h.2.2.1
  refine ⟨a0, c0, r1, a2, c2, ?_, g0, g1, g2, (kInt_open h.2.2.2.1).2, (kInt_open h.2.2.2.2.1).2, (kInt_open h.2.2.2.2.2).2⟩
  intro j hj
  match j, hj with
  | 0, _ => exact (e0 0 (by decide))
  | 1, _ => exact (e1 0 (by decide))
  | 2, _ => exact (e2 0 (by decide))
  | 3, _ => exact ((kInt_open h.2.2.2.1).1 0 (by decide))
  | 4, _ => exact ((kInt_open h.2.2.2.2.1).1 0 (by decide))
  | 5, _ => exact ((kInt_open h.2.2.2.2.2).1 0 (by decide))
  | n + 6, hj => omega
theorem k62_mk {m : Mem} {y0 : (List Bool)} {a0 : Option Addr} {c0 : Nat} {y1 : (List (Int × S36))} {r1 : Option Nat} {y2 : (List Int)} {a2 : Option Addr} {c2 : Nat} {y3 : Int} {y4 : Int} {y5 : Int} (h0 : Sl kBool 1 m a0 c0 y0) (h1 : ImmM (Value.int .i64) k36 m r1 y1) (h2 : Sl (kInt .i64) 8 m a2 c2 y2) (h3 : InR .i64 y3) (h4 : InR .i64 y4) (h5 : InR .i64 y5) : k62.rep m (cells [.slice a0 y0.length c0, .map r1, .slice a2 y2.length c2, .int .i64 y3, .int .i64 y4, .int .i64 y5]) (⟨y0, y1, y2, y3, y4, y5⟩ : S62) := ⟨(kSl kBool 1).ext (c := cells [.slice a0 y0.length c0]) (fun j hj => by have hj : j < 1 := hj; match j, hj with | 0, _ => rfl | n + 1, hj => omega) (kSl_mk h0), (kMap (Value.int .i64) k36).ext (c := cells [.map r1]) (fun j hj => by have hj : j < 1 := hj; match j, hj with | 0, _ => rfl | n + 1, hj => omega) (kMap_mk h1), (kSl (kInt .i64) 8).ext (c := cells [.slice a2 y2.length c2]) (fun j hj => by have hj : j < 1 := hj; match j, hj with | 0, _ => rfl | n + 1, hj => omega) (kSl_mk h2), (kInt .i64).ext (c := cells [.int .i64 y3]) (fun j hj => by have hj : j < 1 := hj; match j, hj with | 0, _ => rfl | n + 1, hj => omega) (kInt_mk h3), (kInt .i64).ext (c := cells [.int .i64 y4]) (fun j hj => by have hj : j < 1 := hj; match j, hj with | 0, _ => rfl | n + 1, hj => omega) (kInt_mk h4), (kInt .i64).ext (c := cells [.int .i64 y5]) (fun j hj => by have hj : j < 1 := hj; match j, hj with | 0, _ => rfl | n + 1, hj => omega) (kInt_mk h5)⟩
theorem Vl62 {m : Mem} {v : Value} {x : S62} (h : Vl k62 m v x) : ∃ (a0 : Option Addr) (c0 : Nat) (r1 : Option Nat) (a2 : Option Addr) (c2 : Nat), v = .agg #[.slice a0 x.f0.length c0, .map r1, .slice a2 x.f2.length c2, .int .i64 x.f3, .int .i64 x.f4, .int .i64 x.f5] ∧ Sl kBool 1 m a0 c0 x.f0 ∧ ImmM (Value.int .i64) k36 m r1 x.f1 ∧ Sl (kInt .i64) 8 m a2 c2 x.f2 ∧ InR .i64 x.f3 ∧ InR .i64 x.f4 ∧ InR .i64 x.f5 := by
  obtain ⟨l, rfl, hl, hr⟩ := h.cellsA rfl
  obtain ⟨a0, c0, r1, a2, c2, e, g0, g1, g2, g3, g4, g5⟩ := k62_open hr
  have : l = [.slice a0 x.f0.length c0, .map r1, .slice a2 x.f2.length c2, .int .i64 x.f3, .int .i64 x.f4, .int .i64 x.f5] := cells_ext _ _ hl (fun j hj => e j (by rw [hl] at hj; exact hj))
  subst this
  exact ⟨a0, c0, r1, a2, c2, rfl, g0, g1, g2, g3, g4, g5⟩
@[ext] structure S40 where
  f0 : Int
  f1 : Int
  f2 : Int
  f3 : ByteArray
  f4 : Int
  f5 : Bool
def k40 : Kd S40 := ⟨6, true, fun m c x => (kInt .i64).rep m (fun j => c (0 + j)) x.f0 ∧ (kInt .i64).rep m (fun j => c (1 + j)) x.f1 ∧ (kInt .i64).rep m (fun j => c (2 + j)) x.f2 ∧ kStr.rep m (fun j => c (3 + j)) x.f3 ∧ (kInt .u8).rep m (fun j => c (4 + j)) x.f4 ∧ kBool.rep m (fun j => c (5 + j)) x.f5, by decide, fun h j hj => (if hq : j < 1 then by have := (kInt .i64).one h.1 (j - 0) (show j - 0 < (kInt .i64).size by change j - 0 < 1; omega); simpa only [show 0 + (j - 0) = j by omega] using this else if hq : j < 2 then by have := (kInt .i64).one h.2.1 (j - 1) (show j - 1 < (kInt .i64).size by change j - 1 < 1; omega); simpa only [show 1 + (j - 1) = j by omega] using this else if hq : j < 3 then by have := (kInt .i64).one h.2.2.1 (j - 2) (show j - 2 < (kInt .i64).size by change j - 2 < 1; omega); simpa only [show 2 + (j - 2) = j by omega] using this else if hq : j < 4 then by have := kStr.one h.2.2.2.1 (j - 3) (show j - 3 < kStr.size by change j - 3 < 1; omega); simpa only [show 3 + (j - 3) = j by omega] using this else if hq : j < 5 then by have := (kInt .u8).one h.2.2.2.2.1 (j - 4) (show j - 4 < (kInt .u8).size by change j - 4 < 1; omega); simpa only [show 4 + (j - 4) = j by omega] using this else if hq : j < 6 then by have := kBool.one h.2.2.2.2.2 (j - 5) (show j - 5 < kBool.size by change j - 5 < 1; omega); simpa only [show 5 + (j - 5) = j by omega] using this else absurd hj (by change ¬ j < 6; omega)), fun hm h => ⟨(kInt .i64).mono hm h.1, (kInt .i64).mono hm h.2.1, (kInt .i64).mono hm h.2.2.1, kStr.mono hm h.2.2.2.1, (kInt .u8).mono hm h.2.2.2.2.1, kBool.mono hm h.2.2.2.2.2⟩, fun hc h => ⟨(kInt .i64).ext (fun j hj => hc (0 + j) (Nat.lt_of_lt_of_le (Nat.add_lt_add_left hj 0) (by decide))) h.1, (kInt .i64).ext (fun j hj => hc (1 + j) (Nat.lt_of_lt_of_le (Nat.add_lt_add_left hj 1) (by decide))) h.2.1, (kInt .i64).ext (fun j hj => hc (2 + j) (Nat.lt_of_lt_of_le (Nat.add_lt_add_left hj 2) (by decide))) h.2.2.1, kStr.ext (fun j hj => hc (3 + j) (Nat.lt_of_lt_of_le (Nat.add_lt_add_left hj 3) (by decide))) h.2.2.2.1, (kInt .u8).ext (fun j hj => hc (4 + j) (Nat.lt_of_lt_of_le (Nat.add_lt_add_left hj 4) (by decide))) h.2.2.2.2.1, kBool.ext (fun j hj => hc (5 + j) (Nat.lt_of_lt_of_le (Nat.add_lt_add_left hj 5) (by decide))) h.2.2.2.2.2⟩⟩
theorem k40_open {m : Mem} {c : Nat → Value} {x : S40} (h : k40.rep m c x) : (∀ j, j < 6 → c j = cells [.int .i64 x.f0, .int .i64 x.f1, .int .i64 x.f2, .string x.f3, .int .u8 x.f4, .bool x.f5] j) ∧ InR .i64 x.f0 ∧ InR .i64 x.f1 ∧ InR .i64 x.f2 ∧ x.f3.size ≤ reach ∧ InR .u8 x.f4 := by
  skip
  refine ⟨?_, (kInt_open h.1).2, (kInt_open h.2.1).2, (kInt_open h.2.2.1).2, (kStr_open h.2.2.2.1).2, (kInt_open h.2.2.2.2.1).2⟩
  intro j hj
  match j, hj with
  | 0, _ => exact ((kInt_open h.1).1 0 (by decide))
  | 1, _ => exact ((kInt_open h.2.1).1 0 (by decide))
  | 2, _ => exact ((kInt_open h.2.2.1).1 0 (by decide))
  | 3, _ => exact ((kStr_open h.2.2.2.1).1 0 (by decide))
  | 4, _ => exact ((kInt_open h.2.2.2.2.1).1 0 (by decide))
  | 5, _ => exact (kBool_open h.2.2.2.2.2 0 (by decide))
  | n + 6, hj => omega
theorem k40_mk {m : Mem} {y0 : Int} {y1 : Int} {y2 : Int} {y3 : ByteArray} {y4 : Int} {y5 : Bool} (h0 : InR .i64 y0) (h1 : InR .i64 y1) (h2 : InR .i64 y2) (h3 : y3.size ≤ reach) (h4 : InR .u8 y4) : k40.rep m (cells [.int .i64 y0, .int .i64 y1, .int .i64 y2, .string y3, .int .u8 y4, .bool y5]) (⟨y0, y1, y2, y3, y4, y5⟩ : S40) := ⟨(kInt .i64).ext (c := cells [.int .i64 y0]) (fun j hj => by have hj : j < 1 := hj; match j, hj with | 0, _ => rfl | n + 1, hj => omega) (kInt_mk h0), (kInt .i64).ext (c := cells [.int .i64 y1]) (fun j hj => by have hj : j < 1 := hj; match j, hj with | 0, _ => rfl | n + 1, hj => omega) (kInt_mk h1), (kInt .i64).ext (c := cells [.int .i64 y2]) (fun j hj => by have hj : j < 1 := hj; match j, hj with | 0, _ => rfl | n + 1, hj => omega) (kInt_mk h2), kStr.ext (c := cells [.string y3]) (fun j hj => by have hj : j < 1 := hj; match j, hj with | 0, _ => rfl | n + 1, hj => omega) (kStr_mk h3), (kInt .u8).ext (c := cells [.int .u8 y4]) (fun j hj => by have hj : j < 1 := hj; match j, hj with | 0, _ => rfl | n + 1, hj => omega) (kInt_mk h4), kBool.ext (c := cells [.bool y5]) (fun j hj => by have hj : j < 1 := hj; match j, hj with | 0, _ => rfl | n + 1, hj => omega) kBool_mk⟩
theorem flat_k40 : Flat k40 := fun h => ⟨flat_int h.1, flat_int h.2.1, flat_int h.2.2.1, flat_str h.2.2.2.1, flat_int h.2.2.2.2.1, flat_bool h.2.2.2.2.2⟩
theorem Vl40 {m : Mem} {v : Value} {x : S40} (h : Vl k40 m v x) : v = .agg #[.int .i64 x.f0, .int .i64 x.f1, .int .i64 x.f2, .string x.f3, .int .u8 x.f4, .bool x.f5] ∧ InR .i64 x.f0 ∧ InR .i64 x.f1 ∧ InR .i64 x.f2 ∧ x.f3.size ≤ reach ∧ InR .u8 x.f4 := by
  obtain ⟨l, rfl, hl, hr⟩ := h.cellsA rfl
  obtain ⟨e, g0, g1, g2, g3, g4⟩ := k40_open hr
  have : l = [.int .i64 x.f0, .int .i64 x.f1, .int .i64 x.f2, .string x.f3, .int .u8 x.f4, .bool x.f5] := cells_ext _ _ hl (fun j hj => e j (by rw [hl] at hj; exact hj))
  subst this
  exact ⟨rfl, g0, g1, g2, g3, g4⟩
@[ext] structure S67 where
  f0 : Int
  f1 : S36
def k67 : Kd S67 := ⟨4, true, fun m c x => (kInt .i64).rep m (fun j => c (0 + j)) x.f0 ∧ k36.rep m (fun j => c (1 + j)) x.f1, by decide, fun h j hj => (if hq : j < 1 then by have := (kInt .i64).one h.1 (j - 0) (show j - 0 < (kInt .i64).size by change j - 0 < 1; omega); simpa only [show 0 + (j - 0) = j by omega] using this else if hq : j < 4 then by have := k36.one h.2 (j - 1) (show j - 1 < k36.size by change j - 1 < 3; omega); simpa only [show 1 + (j - 1) = j by omega] using this else absurd hj (by change ¬ j < 4; omega)), fun hm h => ⟨(kInt .i64).mono hm h.1, k36.mono hm h.2⟩, fun hc h => ⟨(kInt .i64).ext (fun j hj => hc (0 + j) (Nat.lt_of_lt_of_le (Nat.add_lt_add_left hj 0) (by decide))) h.1, k36.ext (fun j hj => hc (1 + j) (Nat.lt_of_lt_of_le (Nat.add_lt_add_left hj 1) (by decide))) h.2⟩⟩
theorem k67_open {m : Mem} {c : Nat → Value} {x : S67} (h : k67.rep m c x) : (∀ j, j < 4 → c j = cells [.int .i64 x.f0, .int .i64 x.f1.f0, .int .i64 x.f1.f1, .string x.f1.f2] j) ∧ InR .i64 x.f0 ∧ InR .i64 x.f1.f0 ∧ InR .i64 x.f1.f1 ∧ x.f1.f2.size ≤ reach := by
  obtain ⟨e1, g1, g2, g3⟩ := k36_open h.2
  refine ⟨?_, (kInt_open h.1).2, g1, g2, g3⟩
  intro j hj
  match j, hj with
  | 0, _ => exact ((kInt_open h.1).1 0 (by decide))
  | 1, _ => exact (e1 0 (by decide))
  | 2, _ => exact (e1 1 (by decide))
  | 3, _ => exact (e1 2 (by decide))
  | n + 4, hj => omega
theorem k67_mk {m : Mem} {y0 : Int} {y1 : Int} {y2 : Int} {y3 : ByteArray} (h0 : InR .i64 y0) (h1 : InR .i64 y1) (h2 : InR .i64 y2) (h3 : y3.size ≤ reach) : k67.rep m (cells [.int .i64 y0, .int .i64 y1, .int .i64 y2, .string y3]) (⟨y0, (⟨y1, y2, y3⟩ : S36)⟩ : S67) := ⟨(kInt .i64).ext (c := cells [.int .i64 y0]) (fun j hj => by have hj : j < 1 := hj; match j, hj with | 0, _ => rfl | n + 1, hj => omega) (kInt_mk h0), k36.ext (c := cells [.int .i64 y1, .int .i64 y2, .string y3]) (fun j hj => by have hj : j < 3 := hj; match j, hj with | 0, _ => rfl | 1, _ => rfl | 2, _ => rfl | n + 3, hj => omega) (k36_mk h1 h2 h3)⟩
theorem flat_k67 : Flat k67 := fun h => ⟨flat_int h.1, flat_k36 h.2⟩
theorem Vl67 {m : Mem} {v : Value} {x : S67} (h : Vl k67 m v x) : v = .agg #[.int .i64 x.f0, .int .i64 x.f1.f0, .int .i64 x.f1.f1, .string x.f1.f2] ∧ InR .i64 x.f0 ∧ InR .i64 x.f1.f0 ∧ InR .i64 x.f1.f1 ∧ x.f1.f2.size ≤ reach := by
  obtain ⟨l, rfl, hl, hr⟩ := h.cellsA rfl
  obtain ⟨e, g0, g1, g2, g3⟩ := k67_open hr
  have : l = [.int .i64 x.f0, .int .i64 x.f1.f0, .int .i64 x.f1.f1, .string x.f1.f2] := cells_ext _ _ hl (fun j hj => e j (by rw [hl] at hj; exact hj))
  subst this
  exact ⟨rfl, g0, g1, g2, g3⟩
@[ext] structure S44 where
  f0 : Int
  f1 : Int
  f2 : Int
def k44 : Kd S44 := ⟨3, true, fun m c x => (kInt .i64).rep m (fun j => c (0 + j)) x.f0 ∧ (kInt .i64).rep m (fun j => c (1 + j)) x.f1 ∧ (kInt .i64).rep m (fun j => c (2 + j)) x.f2, by decide, fun h j hj => (if hq : j < 1 then by have := (kInt .i64).one h.1 (j - 0) (show j - 0 < (kInt .i64).size by change j - 0 < 1; omega); simpa only [show 0 + (j - 0) = j by omega] using this else if hq : j < 2 then by have := (kInt .i64).one h.2.1 (j - 1) (show j - 1 < (kInt .i64).size by change j - 1 < 1; omega); simpa only [show 1 + (j - 1) = j by omega] using this else if hq : j < 3 then by have := (kInt .i64).one h.2.2 (j - 2) (show j - 2 < (kInt .i64).size by change j - 2 < 1; omega); simpa only [show 2 + (j - 2) = j by omega] using this else absurd hj (by change ¬ j < 3; omega)), fun hm h => ⟨(kInt .i64).mono hm h.1, (kInt .i64).mono hm h.2.1, (kInt .i64).mono hm h.2.2⟩, fun hc h => ⟨(kInt .i64).ext (fun j hj => hc (0 + j) (Nat.lt_of_lt_of_le (Nat.add_lt_add_left hj 0) (by decide))) h.1, (kInt .i64).ext (fun j hj => hc (1 + j) (Nat.lt_of_lt_of_le (Nat.add_lt_add_left hj 1) (by decide))) h.2.1, (kInt .i64).ext (fun j hj => hc (2 + j) (Nat.lt_of_lt_of_le (Nat.add_lt_add_left hj 2) (by decide))) h.2.2⟩⟩
theorem k44_open {m : Mem} {c : Nat → Value} {x : S44} (h : k44.rep m c x) : (∀ j, j < 3 → c j = cells [.int .i64 x.f0, .int .i64 x.f1, .int .i64 x.f2] j) ∧ InR .i64 x.f0 ∧ InR .i64 x.f1 ∧ InR .i64 x.f2 := by
  skip
  refine ⟨?_, (kInt_open h.1).2, (kInt_open h.2.1).2, (kInt_open h.2.2).2⟩
  intro j hj
  match j, hj with
  | 0, _ => exact ((kInt_open h.1).1 0 (by decide))
  | 1, _ => exact ((kInt_open h.2.1).1 0 (by decide))
  | 2, _ => exact ((kInt_open h.2.2).1 0 (by decide))
  | n + 3, hj => omega
theorem k44_mk {m : Mem} {y0 : Int} {y1 : Int} {y2 : Int} (h0 : InR .i64 y0) (h1 : InR .i64 y1) (h2 : InR .i64 y2) : k44.rep m (cells [.int .i64 y0, .int .i64 y1, .int .i64 y2]) (⟨y0, y1, y2⟩ : S44) := ⟨(kInt .i64).ext (c := cells [.int .i64 y0]) (fun j hj => by have hj : j < 1 := hj; match j, hj with | 0, _ => rfl | n + 1, hj => omega) (kInt_mk h0), (kInt .i64).ext (c := cells [.int .i64 y1]) (fun j hj => by have hj : j < 1 := hj; match j, hj with | 0, _ => rfl | n + 1, hj => omega) (kInt_mk h1), (kInt .i64).ext (c := cells [.int .i64 y2]) (fun j hj => by have hj : j < 1 := hj; match j, hj with | 0, _ => rfl | n + 1, hj => omega) (kInt_mk h2)⟩
theorem flat_k44 : Flat k44 := fun h => ⟨flat_int h.1, flat_int h.2.1, flat_int h.2.2⟩
theorem Vl44 {m : Mem} {v : Value} {x : S44} (h : Vl k44 m v x) : v = .agg #[.int .i64 x.f0, .int .i64 x.f1, .int .i64 x.f2] ∧ InR .i64 x.f0 ∧ InR .i64 x.f1 ∧ InR .i64 x.f2 := by
  obtain ⟨l, rfl, hl, hr⟩ := h.cellsA rfl
  obtain ⟨e, g0, g1, g2⟩ := k44_open hr
  have : l = [.int .i64 x.f0, .int .i64 x.f1, .int .i64 x.f2] := cells_ext _ _ hl (fun j hj => e j (by rw [hl] at hj; exact hj))
  subst this
  exact ⟨rfl, g0, g1, g2⟩
@[ext] structure S47 where
  f0 : Int
  f1 : (List Bool)
  f2 : (List S67)
  f3 : S44
def k47 : Kd S47 := ⟨6, true, fun m c x => (kInt .i64).rep m (fun j => c (0 + j)) x.f0 ∧ (kSl kBool 1).rep m (fun j => c (1 + j)) x.f1 ∧ (kSl k67 40).rep m (fun j => c (2 + j)) x.f2 ∧ k44.rep m (fun j => c (3 + j)) x.f3, by decide, fun h j hj => (if hq : j < 1 then by have := (kInt .i64).one h.1 (j - 0) (show j - 0 < (kInt .i64).size by change j - 0 < 1; omega); simpa only [show 0 + (j - 0) = j by omega] using this else if hq : j < 2 then by have := (kSl kBool 1).one h.2.1 (j - 1) (show j - 1 < (kSl kBool 1).size by change j - 1 < 1; omega); simpa only [show 1 + (j - 1) = j by omega] using this else if hq : j < 3 then by have := (kSl k67 40).one h.2.2.1 (j - 2) (show j - 2 < (kSl k67 40).size by change j - 2 < 1; omega); simpa only [show 2 + (j - 2) = j by omega] using this else if hq : j < 6 then by have := k44.one h.2.2.2 (j - 3) (show j - 3 < k44.size by change j - 3 < 3; omega); simpa only [show 3 + (j - 3) = j by omega] using this else absurd hj (by change ¬ j < 6; omega)), fun hm h => ⟨(kInt .i64).mono hm h.1, (kSl kBool 1).mono hm h.2.1, (kSl k67 40).mono hm h.2.2.1, k44.mono hm h.2.2.2⟩, fun hc h => ⟨(kInt .i64).ext (fun j hj => hc (0 + j) (Nat.lt_of_lt_of_le (Nat.add_lt_add_left hj 0) (by decide))) h.1, (kSl kBool 1).ext (fun j hj => hc (1 + j) (Nat.lt_of_lt_of_le (Nat.add_lt_add_left hj 1) (by decide))) h.2.1, (kSl k67 40).ext (fun j hj => hc (2 + j) (Nat.lt_of_lt_of_le (Nat.add_lt_add_left hj 2) (by decide))) h.2.2.1, k44.ext (fun j hj => hc (3 + j) (Nat.lt_of_lt_of_le (Nat.add_lt_add_left hj 3) (by decide))) h.2.2.2⟩⟩
theorem k47_open {m : Mem} {c : Nat → Value} {x : S47} (h : k47.rep m c x) : ∃ (a1 : Option Addr) (c1 : Nat) (a2 : Option Addr) (c2 : Nat), (∀ j, j < 6 → c j = cells [.int .i64 x.f0, .slice a1 x.f1.length c1, .slice a2 x.f2.length c2, .int .i64 x.f3.f0, .int .i64 x.f3.f1, .int .i64 x.f3.f2] j) ∧ InR .i64 x.f0 ∧ Sl kBool 1 m a1 c1 x.f1 ∧ Sl k67 40 m a2 c2 x.f2 ∧ InR .i64 x.f3.f0 ∧ InR .i64 x.f3.f1 ∧ InR .i64 x.f3.f2 := by
  obtain ⟨a1, c1, e1, g1⟩ := kSl_open h.2.1
  obtain ⟨a2, c2, e2, g2⟩ := kSl_open h.2.2.1
  obtain ⟨e3, g3, g4, g5⟩ := k44_open h.2.2.2
  refine ⟨a1, c1, a2, c2, ?_, (kInt_open h.1).2, g1, g2, g3, g4, g5⟩
  intro j hj
  match j, hj with
  | 0, _ => exact ((kInt_open h.1).1 0 (by decide))
  | 1, _ => exact (e1 0 (by decide))
  | 2, _ => exact (e2 0 (by decide))
  | 3, _ => exact (e3 0 (by decide))
  | 4, _ => exact (e3 1 (by decide))
  | 5, _ => exact (e3 2 (by decide))
  | n + 6, hj => omega
theorem k47_mk {m : Mem} {y0 : Int} {y1 : (List Bool)} {a1 : Option Addr} {c1 : Nat} {y2 : (List S67)} {a2 : Option Addr} {c2 : Nat} {y3 : Int} {y4 : Int} {y5 : Int} (h0 : InR .i64 y0) (h1 : Sl kBool 1 m a1 c1 y1) (h2 : Sl k67 40 m a2 c2 y2) (h3 : InR .i64 y3) (h4 : InR .i64 y4) (h5 : InR .i64 y5) : k47.rep m (cells [.int .i64 y0, .slice a1 y1.length c1, .slice a2 y2.length c2, .int .i64 y3, .int .i64 y4, .int .i64 y5]) (⟨y0, y1, y2, (⟨y3, y4, y5⟩ : S44)⟩ : S47) := ⟨(kInt .i64).ext (c := cells [.int .i64 y0]) (fun j hj => by have hj : j < 1 := hj; match j, hj with | 0, _ => rfl | n + 1, hj => omega) (kInt_mk h0), (kSl kBool 1).ext (c := cells [.slice a1 y1.length c1]) (fun j hj => by have hj : j < 1 := hj; match j, hj with | 0, _ => rfl | n + 1, hj => omega) (kSl_mk h1), (kSl k67 40).ext (c := cells [.slice a2 y2.length c2]) (fun j hj => by have hj : j < 1 := hj; match j, hj with | 0, _ => rfl | n + 1, hj => omega) (kSl_mk h2), k44.ext (c := cells [.int .i64 y3, .int .i64 y4, .int .i64 y5]) (fun j hj => by have hj : j < 3 := hj; match j, hj with | 0, _ => rfl | 1, _ => rfl | 2, _ => rfl | n + 3, hj => omega) (k44_mk h3 h4 h5)⟩
theorem Vl47 {m : Mem} {v : Value} {x : S47} (h : Vl k47 m v x) : ∃ (a1 : Option Addr) (c1 : Nat) (a2 : Option Addr) (c2 : Nat), v = .agg #[.int .i64 x.f0, .slice a1 x.f1.length c1, .slice a2 x.f2.length c2, .int .i64 x.f3.f0, .int .i64 x.f3.f1, .int .i64 x.f3.f2] ∧ InR .i64 x.f0 ∧ Sl kBool 1 m a1 c1 x.f1 ∧ Sl k67 40 m a2 c2 x.f2 ∧ InR .i64 x.f3.f0 ∧ InR .i64 x.f3.f1 ∧ InR .i64 x.f3.f2 := by
  obtain ⟨l, rfl, hl, hr⟩ := h.cellsA rfl
  obtain ⟨a1, c1, a2, c2, e, g0, g1, g2, g3, g4, g5⟩ := k47_open hr
  have : l = [.int .i64 x.f0, .slice a1 x.f1.length c1, .slice a2 x.f2.length c2, .int .i64 x.f3.f0, .int .i64 x.f3.f1, .int .i64 x.f3.f2] := cells_ext _ _ hl (fun j hj => e j (by rw [hl] at hj; exact hj))
  subst this
  exact ⟨a1, c1, a2, c2, rfl, g0, g1, g2, g3, g4, g5⟩
def OwnS47 (m : Mem) (b : Nat) (I : Grp) (x : S47) : Prop := ∃ (a1 : Option Addr) (c1 : Nat) (I1 : Grp) (a2 : Option Addr) (c2 : Nat) (I2 : Grp), I = (([(b, .cells [.int .i64 x.f0, .slice a1 x.f1.length c1, .slice a2 x.f2.length c2, .int .i64 x.f3.f0, .int .i64 x.f3.f1, .int .i64 x.f3.f2].toArray 48 (0, 0))] ++ I1) ++ I2) ∧ InR .i64 x.f0 ∧ OwnSl kBool 1 4 m a1 c1 I1 x.f1 ∧ OwnSl k67 40 68 m a2 c2 I2 x.f2 ∧ InR .i64 x.f3.f0 ∧ InR .i64 x.f3.f1 ∧ InR .i64 x.f3.f2
theorem OwnS47.mono {m m1 : Mem} {b : Nat} {I : Grp} {x : S47} (h : OwnS47 m b I x) (hm : m.le m1) : OwnS47 m1 b I x := by
  obtain ⟨a1, c1, I1, a2, c2, I2, hI, h0, h1, h2, h3, h4, h5⟩ := h
  exact ⟨a1, c1, I1, a2, c2, I2, hI, h0, (h1.mono hm), (h2.mono hm), h3, h4, h5⟩
def OwnN47 (m : Mem) (p : Option Addr) (I : Grp) (x : Option S47) : Prop := (x = none ∧ p = none ∧ I = []) ∨ ∃ (b : Nat) (y : S47), x = some y ∧ p = some ⟨b, 0, none⟩ ∧ OwnS47 m b I y
theorem OwnN47.mono {m m1 : Mem} {p : Option Addr} {I : Grp} {x : Option S47} (h : OwnN47 m p I x) (hm : m.le m1) : OwnN47 m1 p I x := by
  rcases h with h | ⟨b, y, h1, h2, h3⟩
  · exact .inl h
  · exact .inr ⟨b, y, h1, h2, h3.mono hm⟩
theorem OwnN47.nil {m : Mem} : OwnN47 m none [] none := .inl ⟨rfl, rfl, rfl⟩
theorem OwnS47.nn {m : Mem} {b : Nat} {I : Grp} {x : S47} (h : OwnS47 m b I x) : OwnN47 m (some ⟨b, 0, none⟩) I (some x) := .inr ⟨b, x, rfl, rfl, h⟩
theorem OwnS47.flat {m m1 : Mem} {b : Nat} {I : Grp} {x : S47} (h : OwnS47 m b I x) : OwnS47 m1 b I x := by
  obtain ⟨a1, c1, I1, a2, c2, I2, hI, h0, h1, h2, h3, h4, h5⟩ := h
  exact ⟨a1, c1, I1, a2, c2, I2, hI, h0, (OwnSl.flat flat_bool h1), (OwnSl.flat flat_k67 h2), h3, h4, h5⟩
theorem OwnN47.flat {m m1 : Mem} {p : Option Addr} {I : Grp} {x : Option S47} (h : OwnN47 m p I x) : OwnN47 m1 p I x := by
  rcases h with h | ⟨b, y, h1, h2, h3⟩
  · exact .inl h
  · exact .inr ⟨b, y, h1, h2, h3.flat⟩
theorem OwnS47.lend {z : Base} {w : World} {G : List Grp} {m : Mem} {b : Nat} {I : Grp} {x : S47} (h : OwnS47 m b I x) (hst : W.St z w m (I :: G)) : ∃ (za1 : Option Addr) (zc1 : Nat) (za2 : Option Addr) (zc2 : Nat), At (m.add I) ⟨b, 0, none⟩ 6 (cells [.int .i64 x.f0, .slice za1 x.f1.length zc1, .slice za2 x.f2.length zc2, .int .i64 x.f3.f0, .int .i64 x.f3.f1, .int .i64 x.f3.f2]) ∧ InR .i64 x.f0 ∧ Sl kBool 1 (m.add I) za1 zc1 x.f1 ∧ Sl k67 40 (m.add I) za2 zc2 x.f2 ∧ InR .i64 x.f3.f0 ∧ InR .i64 x.f3.f1 ∧ InR .i64 x.f3.f2 := by
  obtain ⟨a1, c1, I1, a2, c2, I2, hI, h0, h1, h2, h3, h4, h5⟩ := h
  subst hI
  have hs := hst.split.split
  have hle0 : Mem.le (m.add ([(b, .cells [.int .i64 x.f0, .slice a1 x.f1.length c1, .slice a2 x.f2.length c2, .int .i64 x.f3.f0, .int .i64 x.f3.f1, .int .i64 x.f3.f2].toArray 48 (0, 0))])) (m.add (([(b, .cells [.int .i64 x.f0, .slice a1 x.f1.length c1, .slice a2 x.f2.length c2, .int .i64 x.f3.f0, .int .i64 x.f3.f1, .int .i64 x.f3.f2].toArray 48 (0, 0))] ++ I1) ++ I2)) := addle hst (by intro p hp; simp only [List.mem_append]; simp [hp])
  have hle1 : Mem.le (m.add I1) (m.add (([(b, .cells [.int .i64 x.f0, .slice a1 x.f1.length c1, .slice a2 x.f2.length c2, .int .i64 x.f3.f0, .int .i64 x.f3.f1, .int .i64 x.f3.f2].toArray 48 (0, 0))] ++ I1) ++ I2)) := addle hst (by intro p hp; simp only [List.mem_append]; simp [hp])
  have hle2 : Mem.le (m.add I2) (m.add (([(b, .cells [.int .i64 x.f0, .slice a1 x.f1.length c1, .slice a2 x.f2.length c2, .int .i64 x.f3.f0, .int .i64 x.f3.f1, .int .i64 x.f3.f2].toArray 48 (0, 0))] ++ I1) ++ I2)) := addle hst (by intro p hp; simp only [List.mem_append]; simp [hp])
  exact ⟨a1, c1, a2, c2, (box_at hs 6 rfl).mono hle0, h0, ((h1.lend (W.St.front [_] hs)).mono hle1), ((h2.lend (W.St.front [_, _] hs)).mono hle2), h3, h4, h5⟩
theorem OwnN47.lend {z : Base} {w : World} {G : List Grp} {m : Mem} {p : Option Addr} {I : Grp} {x : Option S47} (h : OwnN47 m p I x) (hst : W.St z w m (I :: G)) : PtrV k47 (m.add I) p x := by
  rcases h with ⟨rfl, rfl, rfl⟩ | ⟨b, y, rfl, rfl, h3⟩
  · exact PtrV.nil
  · obtain ⟨za1, zc1, za2, zc2, hA, q0, q1, q2, q3, q4, q5⟩ := h3.lend hst
    exact PtrV.mk hA (k47_mk q0 q1 q2 q3 q4 q5)
def OwnS62 (m : Mem) (b : Nat) (I : Grp) (x : S62) : Prop := ∃ (a0 : Option Addr) (c0 : Nat) (I0 : Grp) (r1 : Nat) (I1 : Grp) (a2 : Option Addr) (c2 : Nat) (I2 : Grp), I = ((([(b, .cells [.slice a0 x.f0.length c0, .map (some r1), .slice a2 x.f2.length c2, .int .i64 x.f3, .int .i64 x.f4, .int .i64 x.f5].toArray 63 (0, 0))] ++ I0) ++ I1) ++ I2) ∧ OwnSl kBool 1 4 m a0 c0 I0 x.f0 ∧ OwnM (Value.int .i64) k36 m r1 I1 x.f1 ∧ OwnSl (kInt .i64) 8 3 m a2 c2 I2 x.f2 ∧ InR .i64 x.f3 ∧ InR .i64 x.f4 ∧ InR .i64 x.f5
theorem OwnS62.mono {m m1 : Mem} {b : Nat} {I : Grp} {x : S62} (h : OwnS62 m b I x) (hm : m.le m1) : OwnS62 m1 b I x := by
  obtain ⟨a0, c0, I0, r1, I1, a2, c2, I2, hI, h0, h1, h2, h3, h4, h5⟩ := h
  exact ⟨a0, c0, I0, r1, I1, a2, c2, I2, hI, (h0.mono hm), (h1.mono hm), (h2.mono hm), h3, h4, h5⟩
def OwnN62 (m : Mem) (p : Option Addr) (I : Grp) (x : Option S62) : Prop := (x = none ∧ p = none ∧ I = []) ∨ ∃ (b : Nat) (y : S62), x = some y ∧ p = some ⟨b, 0, none⟩ ∧ OwnS62 m b I y
theorem OwnN62.mono {m m1 : Mem} {p : Option Addr} {I : Grp} {x : Option S62} (h : OwnN62 m p I x) (hm : m.le m1) : OwnN62 m1 p I x := by
  rcases h with h | ⟨b, y, h1, h2, h3⟩
  · exact .inl h
  · exact .inr ⟨b, y, h1, h2, h3.mono hm⟩
theorem OwnN62.nil {m : Mem} : OwnN62 m none [] none := .inl ⟨rfl, rfl, rfl⟩
theorem OwnS62.nn {m : Mem} {b : Nat} {I : Grp} {x : S62} (h : OwnS62 m b I x) : OwnN62 m (some ⟨b, 0, none⟩) I (some x) := .inr ⟨b, x, rfl, rfl, h⟩
theorem OwnS62.flat {m m1 : Mem} {b : Nat} {I : Grp} {x : S62} (h : OwnS62 m b I x) : OwnS62 m1 b I x := by
  obtain ⟨a0, c0, I0, r1, I1, a2, c2, I2, hI, h0, h1, h2, h3, h4, h5⟩ := h
  exact ⟨a0, c0, I0, r1, I1, a2, c2, I2, hI, (OwnSl.flat flat_bool h0), (OwnM.flat flat_k36 h1), (OwnSl.flat flat_int h2), h3, h4, h5⟩
theorem OwnN62.flat {m m1 : Mem} {p : Option Addr} {I : Grp} {x : Option S62} (h : OwnN62 m p I x) : OwnN62 m1 p I x := by
  rcases h with h | ⟨b, y, h1, h2, h3⟩
  · exact .inl h
  · exact .inr ⟨b, y, h1, h2, h3.flat⟩
theorem OwnS62.lend {z : Base} {w : World} {G : List Grp} {m : Mem} {b : Nat} {I : Grp} {x : S62} (h : OwnS62 m b I x) (hst : W.St z w m (I :: G)) : ∃ (za0 : Option Addr) (zc0 : Nat) (zr1 : Option Nat) (za2 : Option Addr) (zc2 : Nat), At (m.add I) ⟨b, 0, none⟩ 6 (cells [.slice za0 x.f0.length zc0, .map zr1, .slice za2 x.f2.length zc2, .int .i64 x.f3, .int .i64 x.f4, .int .i64 x.f5]) ∧ Sl kBool 1 (m.add I) za0 zc0 x.f0 ∧ ImmM (Value.int .i64) k36 (m.add I) zr1 x.f1 ∧ Sl (kInt .i64) 8 (m.add I) za2 zc2 x.f2 ∧ InR .i64 x.f3 ∧ InR .i64 x.f4 ∧ InR .i64 x.f5 := by
  obtain ⟨a0, c0, I0, r1, I1, a2, c2, I2, hI, h0, h1, h2, h3, h4, h5⟩ := h
  subst hI
  have hs := hst.split.split.split
  have hle0 : Mem.le (m.add ([(b, .cells [.slice a0 x.f0.length c0, .map (some r1), .slice a2 x.f2.length c2, .int .i64 x.f3, .int .i64 x.f4, .int .i64 x.f5].toArray 63 (0, 0))])) (m.add ((([(b, .cells [.slice a0 x.f0.length c0, .map (some r1), .slice a2 x.f2.length c2, .int .i64 x.f3, .int .i64 x.f4, .int .i64 x.f5].toArray 63 (0, 0))] ++ I0) ++ I1) ++ I2)) := addle hst (by intro p hp; simp only [List.mem_append]; simp [hp])
  have hle1 : Mem.le (m.add I0) (m.add ((([(b, .cells [.slice a0 x.f0.length c0, .map (some r1), .slice a2 x.f2.length c2, .int .i64 x.f3, .int .i64 x.f4, .int .i64 x.f5].toArray 63 (0, 0))] ++ I0) ++ I1) ++ I2)) := addle hst (by intro p hp; simp only [List.mem_append]; simp [hp])
  have hle2 : Mem.le (m.add I1) (m.add ((([(b, .cells [.slice a0 x.f0.length c0, .map (some r1), .slice a2 x.f2.length c2, .int .i64 x.f3, .int .i64 x.f4, .int .i64 x.f5].toArray 63 (0, 0))] ++ I0) ++ I1) ++ I2)) := addle hst (by intro p hp; simp only [List.mem_append]; simp [hp])
  have hle3 : Mem.le (m.add I2) (m.add ((([(b, .cells [.slice a0 x.f0.length c0, .map (some r1), .slice a2 x.f2.length c2, .int .i64 x.f3, .int .i64 x.f4, .int .i64 x.f5].toArray 63 (0, 0))] ++ I0) ++ I1) ++ I2)) := addle hst (by intro p hp; simp only [List.mem_append]; simp [hp])
  exact ⟨a0, c0, (some r1), a2, c2, (box_at hs 6 rfl).mono hle0, ((h0.lend (W.St.front [_] hs)).mono hle1), ((h1.lend (W.St.front [_, _] hs)).mono hle2), ((h2.lend (W.St.front [_, _, _] hs)).mono hle3), h3, h4, h5⟩
theorem OwnN62.lend {z : Base} {w : World} {G : List Grp} {m : Mem} {p : Option Addr} {I : Grp} {x : Option S62} (h : OwnN62 m p I x) (hst : W.St z w m (I :: G)) : PtrV k62 (m.add I) p x := by
  rcases h with ⟨rfl, rfl, rfl⟩ | ⟨b, y, rfl, rfl, h3⟩
  · exact PtrV.nil
  · obtain ⟨za0, zc0, zr1, za2, zc2, hA, q0, q1, q2, q3, q4, q5⟩ := h3.lend hst
    exact PtrV.mk hA (k62_mk q0 q1 q2 q3 q4 q5)
def FnR31 (P : Program) (z : Base) (m : Mem) (fid : FuncId) (cp : Array Value) (g : (Int → M Bool)) : Prop := Callable P fid ∧ ∀ {m' : Mem}, m.le m' → ∀ {w : World} {G : List Grp} {x0 : Int} {Q : Bool → Prop}, W.St z w m' G → (InR .i64 x0) → g x0 Q → Calls P fid (#[] ++ #[.int .i64 x0] ++ cp) w (fun e w' => ∃ (r : Bool), W.St z w' m' G ∧ e = .returned (.bool r) ∧ Q r)
theorem FnR31.mono {P : Program} {z : Base} {m m1 : Mem} {fid : FuncId} {cp : Array Value} {g : (Int → M Bool)} (h : FnR31 P z m fid cp g) (hm : m.le m1) : FnR31 P z m1 fid cp g := ⟨h.1, fun hm' => h.2 (hm.trans hm')⟩
theorem FnR31.mk {P : Program} {z : Base} {m : Mem} {fn : Func} {f : FuncId} {cp : Array Value} {g : (Int → M Bool)} (h : P.funcs[f]? = some fn) (h1 : (fn.name == "runtime.NumGoroutine") = false) (h2 : fn.body.isNone = false) (hc : ∀ {m' : Mem}, m.le m' → ∀ {w : World} {G : List Grp} {x0 : Int} {Q : Bool → Prop}, W.St z w m' G → (InR .i64 x0) → g x0 Q → Calls P f (#[] ++ #[.int .i64 x0] ++ cp) w (fun e w' => ∃ (r : Bool), W.St z w' m' G ∧ e = .returned (.bool r) ∧ Q r)) : FnR31 P z m f cp g := ⟨callable_of h h1 h2, hc⟩

def W36 (x : S36) : Prop := (InR .i64) x.f0 ∧ (InR .i64) x.f1 ∧ (fun s => s.size ≤ reach) x.f2
theorem k36_W {m : Mem} {c : Nat → Value} {x : S36} (h : k36.rep m c x) : W36 x := ⟨w_int h.1, w_int h.2.1, w_str h.2.2⟩
def W40 (x : S40) : Prop := (InR .i64) x.f0 ∧ (InR .i64) x.f1 ∧ (InR .i64) x.f2 ∧ (fun s => s.size ≤ reach) x.f3 ∧ (InR .u8) x.f4 ∧ (fun _ => True) x.f5
theorem k40_W {m : Mem} {c : Nat → Value} {x : S40} (h : k40.rep m c x) : W40 x := ⟨w_int h.1, w_int h.2.1, w_int h.2.2.1, w_str h.2.2.2.1, w_int h.2.2.2.2.1, w_bool h.2.2.2.2.2⟩
def W67 (x : S67) : Prop := (InR .i64) x.f0 ∧ W36 x.f1
theorem k67_W {m : Mem} {c : Nat → Value} {x : S67} (h : k67.rep m c x) : W67 x := ⟨w_int h.1, k36_W h.2⟩
def W44 (x : S44) : Prop := (InR .i64) x.f0 ∧ (InR .i64) x.f1 ∧ (InR .i64) x.f2
theorem k44_W {m : Mem} {c : Nat → Value} {x : S44} (h : k44.rep m c x) : W44 x := ⟨w_int h.1, w_int h.2.1, w_int h.2.2⟩
def W47 (x : S47) : Prop := (InR .i64) x.f0 ∧ (WL (fun _ => True) 1) x.f1 ∧ (WL W67 40) x.f2 ∧ W44 x.f3
theorem k47_W {m : Mem} {c : Nat → Value} {x : S47} (h : k47.rep m c x) : W47 x := ⟨w_int h.1, (w_sl w_bool) h.2.1, (w_sl k67_W) h.2.2.1, k44_W h.2.2.2⟩
end Go.Proofs.Ytcnlbnccghjeaaa.W
