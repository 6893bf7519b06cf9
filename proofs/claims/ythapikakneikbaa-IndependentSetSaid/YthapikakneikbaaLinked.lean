/-
  selfstabworld: Within, at, linked.
-/
import Derived.Test.YthapikakneikbaaLRows
namespace Go.Proofs.Ythapikakneikbaa
open Go.RowKit

/-- v modulo m, from 0 on (0 if m is below 1). -/
def within (v m : Int) : Int := if m < 1 then 0 else if v.tmod m < 0 then v.tmod m + m else v.tmod m
theorem within_bd {v m : Int} (hm : 1 ≤ m) : 0 ≤ within v m ∧ within v m < m := by
  unfold within
  rw [if_neg (by omega)]
  have h1 := Int.tmod_lt_of_pos v (show 0 < m by omega)
  have h2 : -m < v.tmod m := by
    have := Int.tmod_lt_of_pos (-v) (show 0 < m by omega)
    rw [Int.neg_tmod] at this
    omega
  split <;> omega
theorem within_calls (w : World) (v m : Int) (hm : m ≤ 100000) : Calls Try.prog 70 #[.int .i64 v, .int .i64 m] w fun e w' => e = .returned (.int .i64 (within v m)) ∧ w = w' := by
  by_cases h1 : m < 1
  · have HE : Hid (within v m = 0) := by unfold Hid within; rw [if_pos h1]
    go_enter Try.func70, Try.ntmps70
    go_wp2_with fail
    go_ret
    exact ⟨by rw [HE.out]; rfl, rfl⟩
  · have hb := within_bd (v := v) (m := m) (by omega)
    have h0 : (m == 0) = false := by rw [beq_eq_false_iff_ne]; omega
    have hl := Int.tmod_lt_of_pos v (show 0 < m by omega)
    by_cases h2 : v.tmod m < 0
    · have HE : Hid (within v m = v.tmod m + m) := by unfold Hid within; rw [if_neg h1, if_pos h2]
      rw [HE.out] at hb
      go_enter Try.func70, Try.ntmps70
      go_wp2_with fail
      go_ret
      exact ⟨by rw [HE.out]; rfl, rfl⟩
    · have HE : Hid (within v m = v.tmod m) := by unfold Hid within; rw [if_neg h1, if_neg h2]
      go_enter Try.func70, Try.ntmps70
      go_wp2_with fail
      go_ret
      exact ⟨by rw [HE.out]; rfl, rfl⟩
/-- An element of a list, or 0; i from 0 on. -/
def at0 (l : List Int) (i : Int) : Int := l.getD i.toNat 0
theorem at_calls (w : World) (A : Option Addr) (c : Nat) (l : List Int) (hl : (Kd.int .i64).C w A l) (i : Int) (h0 : 0 ≤ i) : Calls Try.prog 71 #[.slice A l.length c, .int .i64 i] w fun e w' => e = .returned (.int .i64 (at0 l i)) ∧ w = w' := by
  obtain ⟨i, rfl⟩ := Int.eq_ofNat_of_zero_le h0
  have hm := Kd.C_max hl
  by_cases h1 : i < l.length
  · obtain ⟨ad, hA, hc⟩ := Kd.at_int hl i h1
    cases hA
    have HE : Hid (at0 l (i : Int) = l[i]) := by unfold Hid at0; simp [List.getD_eq_getElem?_getD, h1]
    generalize l[i] = y at hc HE
    clear hl
    go_enter Try.func71, Try.ntmps71
    go_wp2_with fail
    go_ret
    exact ⟨by rw [HE.out]; rfl, rfl⟩
  · have HE : Hid (at0 l (i : Int) = 0) := by unfold Hid at0; simp [List.getD_eq_getElem?_getD, h1]
    clear hl
    go_enter Try.func71, Try.ntmps71
    go_wp2_with fail
    go_ret
    exact ⟨by rw [HE.out]; rfl, rfl⟩
def linkedB (rows : List (List Link)) (a : Nat) (b : Int) : Bool := (rows.getD a []).any fun l => l.to_ == b
set_option maxRecDepth 100000 in
theorem linked_calls (w : World) (v0 : Value) (A1 : Option Addr) (c1 : Nat) (rows : List (List Link)) (hr : kLink.slice.C w A1 rows) (a : Nat) (ha : a < rows.length) (b : Int) :
    Calls Try.prog 132 #[.agg #[v0, .slice A1 rows.length c1], .int .i64 a, .int .i64 b] w fun e w' => e = .returned (.bool (linkedB rows a b)) ∧ Below w.heap.size w w' := by
  have hb0 := (Below.refl w.heap.size w).alloc (Nat.le_refl _) (.cells #[v0, .slice A1 rows.length c1] 27)
  obtain ⟨ad, A4, c4, hA, hcell, hl4, hC4⟩ := Kd.at_slice (Kd.C_below hr hb0) a ha
  cases hA
  have HP : Hid (rows.getD a [] = rows[a]) := by unfold Hid; simp [List.getD_eq_getElem?_getD, ha]
  generalize rows[a] = ps at hcell hl4 hC4 HP
  have hpm := Kd.C_max hC4
  have hrm := Kd.C_max hr
  have HC4 := Lib.hid hC4
  have HB0 := Lib.hid hb0
  clear hr hC4 hb0
  go_enter Try.func132, Try.ntmps132
  go_wp2_with fail
  go_loop [7] (fun i => ∃ j : Nat, j ≤ ps.length ∧ i = .int .i64 j ∧ (ps.take j).any (fun l => l.to_ == b) = false) (fun i => ps.length - (intOf i).toNat)
  case atStart => exact ⟨0, Nat.zero_le _, rfl, by simp⟩
  case round =>
    obtain ⟨j, hj, rfl, hn⟩ := hrel
    have HN := Lib.hid hn
    clear hn
    by_cases hlt : j < ps.length
    · obtain ⟨ad2, hA2, hx, hy⟩ := at_link HC4.out j hlt
      cases hA2
      have HX : Hid (ps.take (j + 1) = ps.take j ++ [ps[j]]) := by unfold Hid; rw [List.take_succ_eq_append_getElem hlt]
      have HM : Hid (ps[j] ∈ ps) := List.getElem_mem hlt
      generalize ps[j] = l at hx hy HX HM
      by_cases hxb : l.to_ = b
      · have t1 : (l.to_ == b) = true := by simp [hxb]
        have HE : Hid (linkedB rows a b = true) := by unfold Hid linkedB; rw [HP.out, List.any_eq_true]; exact ⟨l, HM.out, t1⟩
        clear hxb
        go_wp2_with fail
        go_ret
        exact ⟨by rw [HE.out]; rfl, HB0.out⟩
      · have t1 : (l.to_ == b) = false := by simp [hxb]
        clear hxb
        have HT := Lib.hid t1
        go_wp2_with fail
        go_round
        case rel => exact ⟨j + 1, by omega, by go_num, by rw [HX.out, List.any_append, HN.out]; simpa using HT.out⟩
        case measure => simp [intOf]; omega
    · have HE : Hid (linkedB rows a b = false) := by unfold Hid linkedB; rw [HP.out, ← List.take_of_length_le (show ps.length ≤ j by omega)]; exact HN.out
      go_wp2_with fail
      go_ret
      exact ⟨by rw [HE.out]; rfl, HB0.out⟩
end Go.Proofs.Ythapikakneikbaa
