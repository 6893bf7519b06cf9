/-
  The plain law of IndependentSet: what the members of a configuration are. (No program in this text.)
-/
import Derived.Test.YthapikakneikbaaKnown
import Derived.Test.YthapikakneikbaaRefValid
namespace Go.Proofs.Ythapikakneikbaa
open Go.RowKit

theorem sub_bits {S : Nat} (h : S < 4294967296) (i : Nat) : (4294967295 - S).testBit i = (decide (i < 32) && !S.testBit i) := by
  have := Nat.testBit_two_pow_sub_succ (n := 32) (x := S) h i
  rw [← this]
  congr 1
  omega
theorem set_law {n nb S : Nat} (hn : n ≤ 24) (hS : S < 2 ^ n) (hN : nb < 2 ^ n) :
    decide (nb = ((2 ^ n - 1) &&& (4294967295 - S))) = (decide (S &&& (4294967295 - (2 ^ n - 1)) = 0) && decide (nb &&& S = 0) && decide (S ||| nb = 2 ^ n - 1)) := by
  have h32 : (2 ^ n : Nat) ≤ 2 ^ 24 := Nat.pow_le_pow_right (by omega) hn
  have hS32 : S < 4294967296 := by omega
  have hb : ∀ {a i : Nat}, a < 2 ^ n → ¬ i < n → a.testBit i = false := fun ha hi => Nat.testBit_lt_two_pow (Nat.lt_of_lt_of_le ha (Nat.pow_le_pow_right (by omega) (by omega)))
  have e1 : S &&& (4294967295 - (2 ^ n - 1)) = 0 := by
    refine Nat.eq_of_testBit_eq fun i => ?_
    rw [Nat.testBit_and, sub_bits (by omega), Nat.testBit_two_pow_sub_one, Nat.zero_testBit]
    by_cases hi : i < n
    · simp [hi]
    · rw [hb hS hi]; simp
  rw [decide_eq_true e1, Bool.true_and]
  have key : (nb = ((2 ^ n - 1) &&& (4294967295 - S))) ↔ (nb &&& S = 0 ∧ S ||| nb = 2 ^ n - 1) := by
    constructor
    · intro h
      constructor
      · refine Nat.eq_of_testBit_eq fun i => ?_
        rw [h, Nat.testBit_and, Nat.testBit_and, sub_bits hS32, Nat.zero_testBit]
        cases S.testBit i <;> simp
      · refine Nat.eq_of_testBit_eq fun i => ?_
        rw [h, Nat.testBit_or, Nat.testBit_and, sub_bits hS32, Nat.testBit_two_pow_sub_one]
        by_cases hi : i < n
        · have : i < 32 := by omega
          cases S.testBit i <;> simp [hi, this]
        · rw [hb hS hi]; simp [hi]
    · rintro ⟨h1, h2⟩
      refine Nat.eq_of_testBit_eq fun i => ?_
      have h1i : (nb &&& S).testBit i = false := by rw [h1]; simp
      have h2i : (S ||| nb).testBit i = decide (i < n) := by rw [h2, Nat.testBit_two_pow_sub_one]
      rw [Nat.testBit_and] at h1i
      rw [Nat.testBit_or] at h2i
      rw [Nat.testBit_and, sub_bits hS32, Nat.testBit_two_pow_sub_one]
      by_cases hi : i < n
      · have : i < 32 := by omega
        simp only [hi, this, decide_true, Bool.true_and] at h2i ⊢
        cases hs : S.testBit i <;> cases hk : nb.testBit i <;> simp_all
      · rw [hb hN hi]; simp [hi]
  rw [← Bool.decide_and]
  exact decide_eq_decide.2 key

theorem cfg_at {g : Graph} {vars : List Var} {raw : List Int} {v : Nat} (hv : v < g.ports.length) : (cfg g vars raw).getD v [] = cfgTo g vars raw v vars.length := by
  unfold cfg cfgRows
  simp [List.getD_eq_getElem?_getD, hv]
theorem cfg_len (g : Graph) (vars : List Var) (raw : List Int) : (cfg g vars raw).length = g.ports.length := cfgRows_len _ _ _ _
theorem varM_small : ∀ v ∈ [varM], v.Small := fun v hv => by
  rw [List.mem_singleton.1 hv]
  exact ⟨by decide, by decide, by decide, by decide⟩
/-- The configurations of the one variable m. -/
theorem cfg31_cell (g : Graph) (raw : List Int) (v : Nat) : cfgTo g [varM] raw v 1 = [within (at0 raw (v : Int)) 2] := by
  unfold cfgTo cfgCell
  simp [varM, Var.lo', Var.hi']
theorem cfg31_holds (g : Graph) (raw : List Int) : holdsB g (cfg g [varM] raw) [1] = true := by
  refine holds_good (cfg_len _ _ _) fun v hv => ?_
  rw [cfg_len] at hv
  rw [cfg_at hv]
  show rowOK _ [1] (cfgTo g [varM] raw v 1) = true
  rw [cfg31_cell]
  have := within_bd (v := at0 raw (v : Int)) (m := 2) (by omega)
  refine row_good rfl fun x hx => ?_
  have hx0 : x = 0 := by simpa using hx
  subst hx0
  simp [inRange]
  omega
theorem cfg31_rows (g : Graph) (raw : List Int) : ∀ r ∈ cfg g [varM] raw, 0 < r.length := fun r hr => by
  obtain ⟨v, _, rfl⟩ := List.mem_map.1 hr
  rw [show [varM].length = 1 from rfl, cfg31_cell]
  exact Nat.zero_lt_one
theorem whereB_pow (c : Conf) (x : Nat) : whereB c x < 2 ^ c.length := bitsOf_lt _ _
theorem neighB_pow {g : Graph} (h : g.valid = true) (s : Nat) : neighB g s < 2 ^ g.ports.length := by
  unfold neighB
  rw [if_pos h]
  exact bitsOf_lt _ _
/-- The law. -/
theorem set31 {g : Graph} (hV : g.valid = true) (raw : List Int) :
    legit31 g (cfg g [varM] raw) = (indepB g (whereB (cfg g [varM] raw) 0) && decide (whereB (cfg g [varM] raw) 0 ||| neighB g (whereB (cfg g [varM] raw) 0) = 2 ^ g.ports.length - 1)) := by
  have hn := (valid_size hV).2.1
  have hl := cfg_len g [varM] raw
  have h1 := whereB_pow (cfg g [varM] raw) 0
  rw [hl] at h1
  unfold legit31 indepB
  rw [hV, cfg31_holds, hl]
  simp only [Bool.true_and]
  exact set_law hn h1 (neighB_pow hV _)
theorem where31 {g : Graph} (hV : g.valid = true) (raw : List Int) {v : Nat} (hv : v < g.ports.length) : hasB (whereB (cfg g [varM] raw) 0) (v : Int) = (within (at0 raw (v : Int)) 2 == 1) := by
  have hn := (valid_size hV).2.1
  unfold hasB whereB
  rw [Int.toNat_natCast, testBit_bitsOf, cfg_len, decide_eq_true (show (0 : Int) ≤ v ∧ (v : Int) < 32 by omega), decide_eq_true hv]
  simp only [Bool.true_and]
  unfold vl
  rw [cfg_at hv, show [varM].length = 1 from rfl, cfg31_cell]
  rfl
end Go.Proofs.Ythapikakneikbaa
