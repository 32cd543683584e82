/- More steps of a walk: calls' begins and ends, kinds laid open, numbers. Conditions: none. -/
import Derived.Test.YtcnlbnccghjeaaaLibC
set_option linter.unusedVariables false
set_option linter.unusedSimpArgs false
namespace Go.Proofs.Ytcnlbnccghjeaaa.W
open Go

/-! ### 1. Code by its place in a function -/

def sub : List Nat → Code → Code
  | [], c => c
  | 0 :: r, .seq x _ => sub r x
  | _ :: r, .seq _ y => sub r y
  | 0 :: r, .cond _ x _ => sub r x
  | _ :: r, .cond _ _ y => sub r y
  | _ :: r, .block _ x => sub r x
  | _ :: r, .loop x => sub r x
  | _ :: r, .scope x => sub r x
  | _, c => c
def codeOf (f : Func) : Code := match f.body with | some c => c | none => .skip
def rops : Code → Array Oper
  | .region _ o _ => o
  | _ => #[]

section
variable {P : Program} {b : Frame} {cs : List Frame} {R : Ending → World → Prop} {a : Act} {w : World} {k todo' : List Item} {n : Nat} {e : Env} {c x y : Code}

theorem to_seq (x y : Code) (hc : c = .seq x y) (h : Reach P b cs R (.code x :: .code y :: k) a w) : Reach P b cs R (.code c :: k) a w := by subst hc; exact reach_seq h
theorem to_skip (hc : c = .skip) (h : Reach P b cs R k a w) : Reach P b cs R (.code c :: k) a w := by subst hc; exact reach_skip h
theorem to_then (o : Operand) (x y : Code) (hc : c = .cond o x y) (hs : Has n a e) (ho : e.ev o = some (.bool true)) (h : Reach P b cs R (.code x :: k) a w) : Reach P b cs R (.code c :: k) a w := by
  subst hc; exact reach_cond (t := true) (hs.eval ho) h
theorem to_else (o : Operand) (x y : Code) (hc : c = .cond o x y) (hs : Has n a e) (ho : e.ev o = some (.bool false)) (h : Reach P b cs R (.code y :: k) a w) : Reach P b cs R (.code c :: k) a w := by
  subst hc; exact reach_cond (t := false) (hs.eval ho) h
theorem to_block (id : Nat) (x : Code) (hc : c = .block id x) (h : Reach P b cs R (.code x :: .inBlock id :: k) a w) : Reach P b cs R (.code c :: k) a w := by subst hc; exact reach_block h
theorem to_loop (x : Code) (hc : c = .loop x) (h : Reach P b cs R (.code x :: .inLoop x :: k) a w) : Reach P b cs R (.code c :: k) a w := by subst hc; exact reach_loop h
theorem to_exit (id : Nat) (hc : c = .exit id) (todo' : List Item) (hx : exitTo id k = some todo') (h : Reach P b cs R todo' a w) : Reach P b cs R (.code c :: k) a w := by subst hc; exact reach_exit hx h
theorem to_nd (id m : Nat) (ops : Array Oper) (hc : c = .region id ops false) (hm : List.range ops.size = iot 0 m) (h : wpOps P ops (Qk P b cs R k) (iot 0 m) a w) : Reach P b cs R (.code c :: k) a w := by
  subst hc; exact nd_begin hm h
theorem to_dr (id m : Nat) (ops : Array Oper) (hc : c = .region id ops true) (hP : P.follows .mixedOrders = true) (hm : ops.size = m) (es : List Nat) (T : World → Prop) (F : Nat → World → Prop)
    (h : downClosed ops (lst m []) → wpAnyL P ops (Qk P b cs R k) (SE es T F) m (lst m []) a { w with drawn := w.drawn + 1 }) : Reach P b cs R (.code c :: k) a w := by
  subst hc; exact dr_begin hP hm h

def Env.slot (e : Env) (a : Act) (t : Nat) : Value := match e.get t with | some v => v | none => a.tmps.getD t undef
def resOne (f : Nat → Value) : ResultVar → Sem Value
  | .tmp t => pure (f t)
  | .cell a t => do loadVar t (← asAddr (f a))
def resultsF (fn : Func) (f : Nat → Value) : Sem Value := do
  let vs ← fn.results.mapM (resOne f)
  pure (if h : vs.size = 1 then vs[0] else .tuple vs)
theorem results_slot {fn : Func} (hs : Has n a e) : results fn a.tmps = resultsF fn (e.slot a) := by
  have : (fun t => a.tmps.getD t undef) = e.slot a := by
    funext t
    unfold Env.slot
    cases h : e.get t with
    | none => rfl
    | some v => have := hs.get t v h; simp [Array.getD_eq_getD_getElem?, this]
  rw [← this]
  unfold results resultsF
  congr 1
theorem to_ret {fn : Func} {f : Nat} {v : Value} (hc : c = .ret) (hbf : b.fn = f) (hf : P.funcs[f]? = some fn) (hbk : b.kind = .normal) (hs : Has n a e) (hv : (resultsF fn (e.slot a)).run P w = .ok v w) (hR : R (.returned v) w) :
    Reach P b cs R (.code c :: k) a w := by
  subst hc hbf
  exact reach_ret hf hbk hs.defers (by rw [results_slot hs]; exact hv) hR
theorem to_end {fn : Func} {f : Nat} {v : Value} (hbf : b.fn = f) (hf : P.funcs[f]? = some fn) (hbk : b.kind = .normal) (hs : Has n a e) (hv : (resultsF fn (e.slot a)).run P w = .ok v w) (hR : R (.returned v) w) :
    Reach P b cs R [] a w := by
  subst hbf
  exact reach_end hf hbk hs.defers (by rw [results_slot hs]; exact hv) hR
end
theorem calls_begin {P : Program} {f : FuncId} {fn : Func} {c : Code} {n : Nat} {w : World} {R : Ending → World → Prop} (l : List Value)
    (hf : P.funcs[f]? = some fn) (hb : fn.body = some c) (hn : fn.ntmps = n) (hl : l.length ≤ n)
    (h : ∀ (b : Frame) (cs : List Frame) (a : Act), b.fn = f → b.kind = .normal → Has n a (Env.args l 0) → Reach P b cs R [.code c] a w) : Calls P f l.toArray w R := by
  refine calls_of_reach hf hb fun b cs hbf hbk => h b cs _ hbf hbk ?_
  rw [hn]
  exact has_enter l n hl

/-! ### 2. Kinds laid open -/

theorem one_cell {c : Nat → Value} {v : Value} (h : c 0 = v) : ∀ j, j < 1 → c j = cells [v] j := fun j hj => by
  have : j = 0 := by omega
  subst this; exact h
theorem kInt_open {k : IntKind} {m : Mem} {c : Nat → Value} {x : Int} (h : (kInt k).rep m c x) : (∀ j, j < 1 → c j = cells [.int k x] j) ∧ InR k x := ⟨one_cell h.1, h.2⟩
theorem kBool_open {m : Mem} {c : Nat → Value} {x : Bool} (h : kBool.rep m c x) : ∀ j, j < 1 → c j = cells [.bool x] j := one_cell h
theorem kStr_open {m : Mem} {c : Nat → Value} {x : ByteArray} (h : kStr.rep m c x) : (∀ j, j < 1 → c j = cells [.string x] j) ∧ x.size ≤ reach := ⟨one_cell h.1, h.2⟩
theorem kSl_open {α : Type} {K : Kd α} {bytes : Nat} {m : Mem} {c : Nat → Value} {xs : List α} (h : (kSl K bytes).rep m c xs) : ∃ a cap, (∀ j, j < 1 → c j = cells [.slice a xs.length cap] j) ∧ Sl K bytes m a cap xs := by
  obtain ⟨a, cap, h1, h2⟩ := h; exact ⟨a, cap, one_cell h1, h2⟩

/-! ### 3. Numbers, options -/

theorem bind_some {α β : Type} {o : Option α} {f : α → Option β} {r : β} (h : o.bind f = some r) : ∃ x, o = some x ∧ f x = some r := by
  cases o with
  | none => cases h
  | some x => exact ⟨x, rfl, h⟩
theorem wrap_in (k : IntKind) (x : Int) : InR k (k.wrap x) := by
  cases k <;> simp [InR, IntKind.wrap, IntKind.bits, IntKind.signed] <;> (try split) <;> omega
theorem len_in {x : Nat} (h : x ≤ reach) : InR .i64 (x : Int) := by
  unfold reach at h; unfold InR; omega
theorem reach_small {x : Nat} (h : x ≤ 140737488355328) : x ≤ reach := h
theorem eqT {x y : Int} (h : x = y) : (x == y) = true := by simp [h]
theorem eqF {x y : Int} (h : ¬ x = y) : (x == y) = false := by simp [h]
theorem neT {x y : Int} (h : ¬ x = y) : (x != y) = true := by simp [h]
theorem neF {x y : Int} (h : x = y) : (x != y) = false := by simp [h]
theorem bT {x : Bool} (h : x = true) : x = true := h
theorem bF {x : Bool} (h : ¬ x = true) : x = false := by simpa using h

def lit (l : List UInt8) : ByteArray := ⟨l.toArray⟩
theorem lit_small {l : List UInt8} (h : l.length ≤ 140737488355328) : (lit l).size ≤ reach := by
  unfold lit reach; simpa [ByteArray.size] using h
theorem empty_small : ByteArray.empty.size ≤ reach := by unfold reach; decide
theorem Sl.nil {α : Type} {K : Kd α} {bytes : Nat} {m : Mem} {a : Option Addr} {cap : Nat} : Sl K bytes m a cap [] := ⟨Row.nil, by simp, by simp⟩
def w64 (x : Int) : Int := IntKind.wrap .i64 x
def strEq (s t : ByteArray) : Bool := s.toList == t.toList
def strLt (s t : ByteArray) : Bool := Op.bytesLess s.toList t.toList
def strLe (s t : ByteArray) : Bool := Op.bytesLess s.toList t.toList || s.toList == t.toList
def mx (x y : Int) : Int := if y > x then y else x
def mn (x y : Int) : Int := if y < x then y else x
theorem mx_in {k : IntKind} {x y : Int} (hx : InR k x) (hy : InR k y) : InR k (mx x y) := by unfold mx; split <;> assumption
theorem mn_in {k : IntKind} {x y : Int} (hx : InR k x) (hy : InR k y) : InR k (mn x y) := by unfold mn; split <;> assumption
theorem shr_in (k : IntKind) (j : Nat) {x : Int} (h : InR k x) : InR k (Int.fdiv x (2 ^ j)) := by
  have hp : (0 : Int) < 2 ^ j := Int.pow_pos (by decide)
  have h1 : Int.fdiv x (2 ^ j) = x / (2 ^ j) := Int.fdiv_eq_ediv_of_nonneg _ (Int.le_of_lt hp)
  rw [h1]
  have h3 : (1 : Int) ≤ 2 ^ j := hp
  have hlo : ∀ c : Int, 0 ≤ c → -c ≤ x → -c ≤ x / 2 ^ j := by
    intro c hc hx
    rw [Int.le_ediv_iff_mul_le hp]
    have : c * 1 ≤ c * 2 ^ j := Int.mul_le_mul_of_nonneg_left h3 hc
    rw [Int.neg_mul]
    omega
  have hhi : ∀ c : Int, 0 ≤ c → x ≤ c → x / 2 ^ j ≤ c := by
    intro c hc hx
    have h4 : x / 2 ^ j < c + 1 := by
      rw [Int.ediv_lt_iff_lt_mul hp]
      have : (c + 1) * 1 ≤ (c + 1) * 2 ^ j := Int.mul_le_mul_of_nonneg_left h3 (by omega)
      omega
    omega
  have h0 : 0 ≤ x → 0 ≤ x / 2 ^ j := fun hx => Int.ediv_nonneg hx (Int.le_of_lt hp)
  cases k <;> simp only [InR] at h ⊢
  · exact ⟨hlo 128 (by omega) h.1, hhi 127 (by omega) h.2⟩
  · exact ⟨hlo 32768 (by omega) h.1, hhi 32767 (by omega) h.2⟩
  · exact ⟨hlo 2147483648 (by omega) h.1, hhi 2147483647 (by omega) h.2⟩
  · exact ⟨hlo 9223372036854775808 (by omega) h.1, hhi 9223372036854775807 (by omega) h.2⟩
  · exact ⟨h0 h.1, hhi 255 (by omega) h.2⟩
  · exact ⟨h0 h.1, hhi 65535 (by omega) h.2⟩
  · exact ⟨h0 h.1, hhi 4294967295 (by omega) h.2⟩
  · exact ⟨h0 h.1, hhi 18446744073709551615 (by omega) h.2⟩
theorem At.sub {m : Mem} {ad : Addr} {s : Nat} {l : List Value} (h : At m ad s (cells l)) (o s' : Nat) (hs : o + s' ≤ s) : At m ⟨ad.block, ad.off + o, none⟩ s' (cells ((l.drop o).take s')) := by
  refine (h.shift o s' hs).conv fun j hj => ?_
  clear h hs
  have h1 : ∀ (o : Nat) (l : List Value), cells l (o + j) = cells (l.drop o) j := by
    intro o
    induction o with
    | zero => intro l; simp
    | succ o ih =>
      intro l
      cases l with
      | nil => simp [cells]
      | cons v r =>
        rw [show o + 1 + j = (o + j) + 1 from by omega]
        simpa [cells] using ih r
  have h2 : ∀ (l : List Value) (s' j : Nat), j < s' → cells l j = cells (l.take s') j := by
    intro l
    induction l with
    | nil => intro s' j hj; simp [cells]
    | cons v r ih =>
      intro s' j hj
      cases s' with
      | zero => omega
      | succ s' => cases j with
        | zero => simp [cells]
        | succ j => simpa [cells] using ih s' j (by omega)
  rw [h1, h2 _ s' j hj]
theorem At.sub0 {m : Mem} {ad : Addr} {s : Nat} {l : List Value} (h : At m ad s (cells l)) (s' : Nat) (hs : s' ≤ s) : At m ad s' (cells (l.take s')) := by
  have h1 := h.sub 0 s' (by omega)
  obtain ⟨h2, h3⟩ := h1
  rw [Nat.add_zero] at h3
  exact ⟨h.1, by simpa using h3⟩
end Go.Proofs.Ytcnlbnccghjeaaa.W
