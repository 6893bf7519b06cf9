/-
  Sets of nodes as numbers: bit v stands for node v. Plain Lean.
-/
import Derived.WalkKit
namespace Go.Proofs.Ythapikakneikbaa
open Go.RowKit

/-- The set of the nodes below n at which p holds. -/
def bitsOf (p : Nat → Bool) : Nat → Nat
  | 0 => 0
  | n + 1 => if p n then bitsOf p n ||| 2 ^ n else bitsOf p n
theorem bitsOf_lt (p : Nat → Bool) (n : Nat) : bitsOf p n < 2 ^ n := by
  induction n with
  | zero => simp [bitsOf]
  | succ n ih =>
    have h1 : 2 ^ n < 2 ^ (n + 1) := Nat.pow_lt_pow_right (by omega) (by omega)
    unfold bitsOf
    split
    · exact Nat.or_lt_two_pow (by omega) h1
    · omega
theorem bitsOf_small {p : Nat → Bool} {n : Nat} (h : n ≤ 32) : bitsOf p n < 4294967296 := Nat.lt_of_lt_of_le (bitsOf_lt p n) (Nat.pow_le_pow_right (by omega) h : 2 ^ n ≤ 2 ^ 32)
theorem testBit_bitsOf (p : Nat → Bool) (n v : Nat) : (bitsOf p n).testBit v = (decide (v < n) && p v) := by
  induction n with
  | zero => simp [bitsOf]
  | succ n ih =>
    unfold bitsOf
    by_cases hv : v = n
    · subst hv
      have h0 : (bitsOf p v).testBit v = false := Nat.testBit_lt_two_pow (bitsOf_lt p v)
      split <;> rename_i hp <;> simp [Nat.testBit_or, h0, Nat.testBit_two_pow_self, hp]
    · have e : decide (v < n + 1) = decide (v < n) := decide_eq_decide.2 (by omega)
      split
      · rw [Nat.testBit_or, ih, Nat.testBit_two_pow_of_ne (Ne.symm hv), Bool.or_false, e]
      · rw [ih, e]
theorem bitsOf_congr {p q : Nat → Bool} {n : Nat} (h : ∀ v, v < n → p v = q v) : bitsOf p n = bitsOf q n := by
  refine Nat.eq_of_testBit_eq fun v => ?_
  rw [testBit_bitsOf, testBit_bitsOf]
  by_cases hv : v < n
  · rw [h v hv]
  · simp [hv]
/-- A number below 2^n is the set of its bits. -/
theorem bitsOf_self {s n : Nat} (h : s < 2 ^ n) : bitsOf s.testBit n = s := by
  refine Nat.eq_of_testBit_eq fun v => ?_
  rw [testBit_bitsOf]
  by_cases hv : v < n
  · simp [hv]
  · rw [Nat.testBit_lt_two_pow (Nat.lt_of_lt_of_le h (Nat.pow_le_pow_right (by omega) (by omega)))]
    simp [hv]
theorem bitsOf_zero {p : Nat → Bool} {n : Nat} : bitsOf p n = 0 ↔ ∀ v, v < n → p v = false := by
  constructor
  · intro h v hv
    have := testBit_bitsOf p n v
    rw [h] at this
    simpa [hv] using this.symm
  · intro h
    refine Nat.eq_of_testBit_eq fun v => ?_
    rw [testBit_bitsOf]
    by_cases hv : v < n <;> simp [hv]
    exact h v hv
theorem and_bitsOf (p q : Nat → Bool) (n : Nat) : bitsOf p n &&& bitsOf q n = bitsOf (fun v => p v && q v) n := by
  refine Nat.eq_of_testBit_eq fun v => ?_
  rw [Nat.testBit_and, testBit_bitsOf, testBit_bitsOf, testBit_bitsOf]
  cases decide (v < n) <;> simp
theorem or_bitsOf (p q : Nat → Bool) (n : Nat) : bitsOf p n ||| bitsOf q n = bitsOf (fun v => p v || q v) n := by
  refine Nat.eq_of_testBit_eq fun v => ?_
  rw [Nat.testBit_or, testBit_bitsOf, testBit_bitsOf, testBit_bitsOf]
  cases decide (v < n) <;> simp

/-! ### as the walk spells it -/
theorem shl1 {v : Nat} (h : v < 32) : (2 : Int) ^ v % 4294967296 = ((2 ^ v : Nat) : Int) := by
  have h1 : (2 ^ v : Nat) < 2 ^ 32 := Nat.pow_lt_pow_right (by omega) h
  rw [show ((2 : Int) ^ v) = ((2 ^ v : Nat) : Int) by simp]
  generalize (2 ^ v : Nat) = m at h1
  omega
theorem or_one {s v : Nat} (hs : s < 4294967296) (h : v < 32) : Go.bits .or .u32 (s : Int) ((2 ^ v : Nat) : Int) = ((s ||| 2 ^ v : Nat) : Int) :=
  u32_or_nat s (2 ^ v) hs (Nat.pow_lt_pow_right (by omega) h : 2 ^ v < 2 ^ 32)
/-- Bit v of a set, as the code asks for it. -/
theorem shr_and {s v : Nat} (hs : s < 4294967296) : Go.bits .and .u32 ((s : Int) / 2 ^ v) 1 = if s.testBit v then 1 else 0 := by
  have e : ((s : Int) / 2 ^ v) = ((s / 2 ^ v : Nat) : Int) := by
    rw [Int.natCast_ediv]; simp
  have h1 : s / 2 ^ v < 4294967296 := Nat.lt_of_le_of_lt (Nat.div_le_self _ _) hs
  rw [e, show (1 : Int) = ((1 : Nat) : Int) from rfl, u32_and_nat _ 1 h1 (by decide), Nat.and_one_is_mod]
  rw [Nat.testBit_eq_decide_div_mod_eq]
  have := Nat.mod_two_eq_zero_or_one (s / 2 ^ v)
  rcases this with h | h <;> simp [h]
/-- The set of all nodes, as the code reckons it. -/
theorem all_sub {n : Nat} (h : n < 32) : ((2 : Int) ^ n % 4294967296 - 1) % 4294967296 = ((2 ^ n - 1 : Nat) : Int) := by
  rw [shl1 h]
  have h1 : (2 ^ n : Nat) < 2 ^ 32 := Nat.pow_lt_pow_right (by omega) h
  have h2 : 0 < (2 ^ n : Nat) := Nat.pow_pos (by omega)
  generalize (2 ^ n : Nat) = m at h1 h2
  omega
theorem all_sub2 {n : Nat} (h : n < 32) : ((2 : Int) ^ n - 1) % 4294967296 = ((2 ^ n - 1 : Nat) : Int) := by
  have h1 : (2 ^ n : Nat) < 2 ^ 32 := Nat.pow_lt_pow_right (by omega) h
  have h2 : 0 < (2 ^ n : Nat) := Nat.pow_pos (by omega)
  rw [show ((2 : Int) ^ n) = ((2 ^ n : Nat) : Int) by simp]
  generalize (2 ^ n : Nat) = m at h1 h2
  omega
theorem all_bits (n : Nat) : 2 ^ n - 1 = bitsOf (fun _ => true) n := by
  refine Nat.eq_of_testBit_eq fun v => ?_
  rw [testBit_bitsOf, Nat.testBit_two_pow_sub_one]
  simp
theorem all_lt {n : Nat} (h : n ≤ 32) : 2 ^ n - 1 < 4294967296 := by rw [all_bits]; exact bitsOf_small h
theorem beq_nat (a b : Nat) : ((a : Int) == (b : Int)) = decide (a = b) := by
  by_cases h : a = b
  · simp [h]
  · rw [decide_eq_false h, beq_eq_false_iff_ne]; omega

end Go.Proofs.Ythapikakneikbaa
