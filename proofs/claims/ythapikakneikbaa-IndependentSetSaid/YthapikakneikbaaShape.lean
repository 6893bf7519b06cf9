/-
  shape.Where, graph.around, graph.Neighbours.
-/
import Derived.Test.YthapikakneikbaaValid
import Derived.Test.YthapikakneikbaaSets
namespace Go.Proofs.Ythapikakneikbaa
open Go.RowKit

abbrev Conf := List (List Int)
abbrev kConf : Kd (List Int) := Kd.slice (Kd.int .i64)
/-- The value of variable x at node v. -/
def vl (c : Conf) (v x : Nat) : Int := (c.getD v []).getD x 0
theorem vl_at {c : Conf} {v x : Nat} (hv : v < c.length) (hx : x < c[v].length) : vl c v x = c[v][x] := by
  simp [vl, List.getD_eq_getElem?_getD, hv, hx]
/-- The nodes at which variable x is 1. -/
def whereB (c : Conf) (x : Nat) : Nat := bitsOf (fun v => decide (vl c v x = 1)) c.length

set_option maxHeartbeats 1000000 in
theorem where_calls (w : World) (A : Option Addr) (k0 : Nat) (c : Conf) (x : Nat) (hc : kConf.C w A c) (hn : c.length ≤ 32) (hx : ∀ r ∈ c, x < r.length) :
    Calls Try.prog 74 #[.slice A c.length k0, .int .i64 x] w fun e w' => e = .returned (.int .u32 (whereB c x : Nat)) ∧ w = w' := by
  go_enter Try.func74, Try.ntmps74
  go_wp2_with fail
  go_loop [5, 10] (fun s i => ∃ k : Nat, k ≤ c.length ∧ i = .int .i64 k ∧ s = .int .u32 (bitsOf (fun v => decide (vl c v x = 1)) k : Nat)) (fun _ i => c.length - (intOf i).toNat)
  case atStart => exact ⟨0, Nat.zero_le _, rfl, rfl⟩
  case round =>
    obtain ⟨k, hk, rfl, rfl⟩ := hrel
    by_cases hlt : k < c.length
    · obtain ⟨ad, A2, c2, hA, hcell, hl2, hC2⟩ := Kd.at_slice hc k hlt
      cases hA
      have hxl := hx _ (List.getElem_mem hlt)
      obtain ⟨ad2, hA2, hcell2⟩ := Kd.at_int hC2 x hxl
      have HVL := Lib.hid (vl_at hlt hxl)
      generalize c[k][x] = y at hcell2 HVL
      generalize hr : c[k] = r at hcell hl2 hC2 hxl
      have hrm := Kd.C_max hC2
      cases hA2
      have hb := bitsOf_small (p := fun v => decide (vl c v x = 1)) (n := k) (by omega)
      have HB : Hid (bitsOf (fun v => decide (vl c v x = 1)) (k + 1) = if y = 1 then bitsOf (fun v => decide (vl c v x = 1)) k ||| 2 ^ k else bitsOf (fun v => decide (vl c v x = 1)) k) := by
        unfold Hid; rw [bitsOf, HVL.out]; simp
      clear hr hx hc hC2
      generalize bitsOf (fun v => decide (vl c v x = 1)) k = S at hb HB
      by_cases hy : y = 1
      · have hyb : (y == 1) = true := by simp [hy]
        have HY := Lib.hid hy
        clear hy
        go_wp2_with fail
        go_round
        case rel => exact ⟨k + 1, by omega, by go_num, by rw [HB.out, if_pos HY.out, shl1 (by omega), or_one hb (by omega)]⟩
        case measure => simp [intOf]; omega
      · have hyb : (y == 1) = false := by simp [hy]
        have HY := Lib.hid hy
        clear hy
        go_wp2_with fail
        go_round
        case rel => exact ⟨k + 1, by omega, by go_num, by rw [HB.out, if_neg HY.out]⟩
        case measure => simp [intOf]; omega
    · have HE := Lib.hid (show k = c.length by omega)
      go_wp2_with fail
      go_ret
      exact ⟨by rw [HE.out]; rfl, rfl⟩
end Go.Proofs.Ythapikakneikbaa
