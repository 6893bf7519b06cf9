/-
  shape.Holds.
-/
import Derived.Test.YthapikakneikbaaShape
namespace Go.Proofs.Ythapikakneikbaa
open Go.RowKit

/-- Is a value in range? high = -1 stands for a port of a node of so many ports. -/
def inRange (deg : Nat) (high value : Int) : Bool := if high = -1 then decide (-1 ≤ value ∧ value < deg) else decide (0 ≤ value ∧ value ≤ high)
def rowOK (deg : Nat) (most r : List Int) : Bool := r.length == most.length && (List.range r.length).all fun x => inRange deg (most.getD x 0) (r.getD x 0)
/-- c has a state for each node, with values in range. -/
def holdsB (g : Graph) (c : Conf) (most : List Int) : Bool := c.length == g.ports.length && (List.range c.length).all fun v => rowOK (g.ports.getD v []).length most (c.getD v [])
theorem row_bad {deg : Nat} {most r : List Int} (h : r.length ≠ most.length ∨ ∃ x, x < r.length ∧ inRange deg (most.getD x 0) (r.getD x 0) = false) : rowOK deg most r = false := by
  cases hr : rowOK deg most r with
  | false => rfl
  | true =>
    simp only [rowOK, Bool.and_eq_true, beq_iff_eq, List.all_eq_true, List.mem_range] at hr
    rcases h with h | ⟨x, hx, h⟩
    · exact absurd hr.1 h
    · rw [hr.2 x hx] at h; cases h
theorem holds_bad {g : Graph} {c : Conf} {most : List Int} (h : c.length ≠ g.ports.length ∨ ∃ v, v < c.length ∧ rowOK (g.ports.getD v []).length most (c.getD v []) = false) : holdsB g c most = false := by
  cases hr : holdsB g c most with
  | false => rfl
  | true =>
    simp only [holdsB, Bool.and_eq_true, beq_iff_eq, List.all_eq_true, List.mem_range] at hr
    rcases h with h | ⟨x, hx, h⟩
    · exact absurd hr.1 h
    · rw [hr.2 x hx] at h; cases h
theorem row_good {deg : Nat} {most r : List Int} (h1 : r.length = most.length) (h : ∀ x, x < r.length → inRange deg (most.getD x 0) (r.getD x 0) = true) : rowOK deg most r = true := by
  simp only [rowOK, Bool.and_eq_true, beq_iff_eq, List.all_eq_true, List.mem_range]; exact ⟨h1, h⟩
theorem holds_good {g : Graph} {c : Conf} {most : List Int} (h1 : c.length = g.ports.length) (h : ∀ v, v < c.length → rowOK (g.ports.getD v []).length most (c.getD v []) = true) : holdsB g c most = true := by
  simp only [holdsB, Bool.and_eq_true, beq_iff_eq, List.all_eq_true, List.mem_range]; exact ⟨h1, h⟩

set_option maxHeartbeats 2000000 in
set_option maxRecDepth 100000 in
theorem holds_calls (w : World) (A0 : Option Addr) (c0 : Nat) (A1 : Option Addr) (c1 : Nat) (g : Graph) (hg : IsGraph w A0 c0 A1 c1 g) (A2 : Option Addr) (c2 : Nat) (c : Conf) (hc : kConf.C w A2 c) (A3 : Option Addr) (c3 : Nat) (most : List Int) (hm : (Kd.int .i64).C w A3 most) :
    Calls Try.prog 73 #[.agg #[.slice A0 g.ids.length c0, .slice A1 g.ports.length c1], .slice A2 c.length c2, .slice A3 most.length c3] w fun e w' => e = .returned (.bool (holdsB g c most)) ∧ Below w.heap.size w w' := by
  by_cases h1 : c.length = g.ports.length
  · have t1 : ((c.length : Int) != (g.ports.length : Int)) = false := by rw [h1]; simp
    have H1 := Lib.hid h1
    have hcm := Kd.C_max hc
    have hle : c.length ≤ g.ports.length := by omega
    clear h1
    go_enter Try.func73, Try.ntmps73
    go_wp2_with fail
    go_loopw [21] (fun i wr => ∃ v : Nat, v ≤ c.length ∧ i = .int .i64 v ∧ (∀ u, u < v → rowOK (g.ports.getD u []).length most (c.getD u []) = true) ∧ Below (w.heap.size + 1) (w.alloc (.cells #[.slice A0 g.ids.length c0, .slice A1 g.ports.length c1] 27)) wr) (fun i _ => c.length - (intOf i).toNat)
    case atStart => exact ⟨0, Nat.zero_le _, rfl, fun _ h => absurd h (Nat.not_lt_zero _), Below.refl _ _⟩
    case round =>
      obtain ⟨wv, rfl⟩ : ∃ wv : World, wv = wr := ⟨_, rfl⟩
      obtain ⟨v, hv, rfl, hi, hb⟩ := hrel
      have hzv := hb.size
      simp only [World.size_alloc] at hzv
      have hc1v : wv.cell? ⟨w.heap.size, 1, none⟩ = some (.slice A1 g.ports.length c1) := by rw [(bcell hb).1 _ _ (Nat.lt_succ_self _)]; go_simp
      have hB := Lib.hid (((Below.refl w.heap.size w).alloc (Nat.le_refl _) (.cells #[.slice A0 g.ids.length c0, .slice A1 g.ports.length c1] 27)).trans (hb.mono (Nat.le_succ _)))
      have HI := Lib.hid hi
      have HB := Lib.hid hb
      clear hi hb
      by_cases hlt : v < c.length
      · obtain ⟨ad, A4, c4, hA, hcell, hl4, hC4⟩ := Kd.at_slice (Kd.C_below hc hB.out) v hlt
        obtain ⟨ad5, A5, c5, hA5, hcell5, hl5, hC5⟩ := Kd.at_slice (Kd.C_below hg.ports hB.out) v (by omega)
        cases hA
        cases hA5
        have HR : Hid (c.getD v [] = c[v]) := by unfold Hid; simp [List.getD_eq_getElem?_getD, hlt]
        have HP : Hid (g.ports.getD v [] = g.ports[v]) := by unfold Hid; simp [List.getD_eq_getElem?_getD]; rw [List.getElem?_eq_getElem]; rfl
        generalize c[v] = r at hcell hl4 hC4 HR
        generalize g.ports[v] = ps at hcell5 hl5 hC5 HP
        have hrm := Kd.C_max hC4
        have hpm := Kd.C_max hC5
        have HC4 := Lib.hid hC4
        have HM3 := Lib.hid (Kd.C_below hm hB.out)
        have hmm := Kd.C_max hm
        have HBAD : Hid (rowOK ps.length most r = false → holdsB g c most = false) := fun h => holds_bad (.inr ⟨v, hlt, by rw [HP.out, HR.out]; exact h⟩)
        clear hC4 hC5 hm hc hg
        by_cases h2 : r.length = most.length
        · have t2 : ((r.length : Int) != (most.length : Int)) = false := by rw [h2]; simp
          have hrl : r.length ≤ most.length := by omega
          have H2 := Lib.hid h2
          clear h2
          go_wp2_with fail
          go_loopw [33] (fun i wr => ∃ x : Nat, x ≤ r.length ∧ i = .int .i64 x ∧ (∀ y, y < x → inRange ps.length (most.getD y 0) (r.getD y 0) = true) ∧ ∃ n, wr = wv.drewN n) (fun i _ => r.length - (intOf i).toNat)
          case atStart => exact ⟨0, Nat.zero_le _, rfl, fun _ h => absurd h (Nat.not_lt_zero _), 0, rfl⟩
          case round =>
            obtain ⟨x, hx, rfl, hj, n, rfl⟩ := hrel
            have HJ := Lib.hid hj
            clear hj
            by_cases hlx : x < r.length
            · have hlm : x < most.length := by omega
              obtain ⟨ad6, hA6, hc6⟩ := Kd.at_int HC4.out x hlx
              obtain ⟨ad7, hA7, hc7⟩ := Kd.at_int HM3.out x hlm
              cases hA6
              cases hA7
              have HY : Hid (r.getD x 0 = r[x]) := by unfold Hid; simp [List.getD_eq_getElem?_getD, hlx]
              have HH : Hid (most.getD x 0 = most[x]) := by unfold Hid; simp [List.getD_eq_getElem?_getD, hlm]
              generalize r[x] = y at hc6 HY
              generalize most[x] = q at hc7 HH
              have HBX : Hid (inRange ps.length q y = false → holdsB g c most = false) := fun h => HBAD.out (row_bad (.inr ⟨x, hlx, by rw [HY.out, HH.out]; exact h⟩))
              have HGX : Hid (inRange ps.length q y = true → ∀ z, z < x + 1 → inRange ps.length (most.getD z 0) (r.getD z 0) = true) := fun h z hz => by
                by_cases hzx : z = x
                · subst hzx; rw [HY.out, HH.out]; exact h
                · exact HJ.out z (by omega)
              have hx0 : (0 : Int) ≤ x := by omega
              have hxm : (x : Int) < most.length := by omega
              have hv0 : (0 : Int) ≤ v := by omega
              have hvm : (v : Int) < g.ports.length := by omega
              by_cases hq : q = -1
              · have hqb : (q == -1) = true := by simp [hq]
                have HQ := Lib.hid hq
                clear hq
                by_cases y0 : y < -1
                · have HV := Lib.hid (HBX.out (by simp [inRange, HQ.out]; omega))
                  go_wp2_with fail
                  go_quiet (fail)
                  go_wp2_with fail
                  go_quiet (fail)
                  go_wp2_with fail
                  go_ret
                  exact ⟨by rw [HV.out]; rfl, below_drewN hB.out _⟩
                · by_cases y1 : (ps.length : Int) - 1 < y
                  · have HV := Lib.hid (HBX.out (by simp [inRange, HQ.out]; omega))
                    go_wp2_with fail
                    go_quiet (fail)
                    go_wp2_with fail
                    go_quiet (fail)
                    go_wp2_with fail
                    go_ret
                    exact ⟨by rw [HV.out]; rfl, below_drewN hB.out _⟩
                  · have HN := Lib.hid (HGX.out (by simp [inRange, HQ.out]; omega))
                    go_wp2_with fail
                    go_quiet (fail)
                    go_wp2_with fail
                    go_quiet (fail)
                    go_wp2_with fail
                    go_roundw
                    case rel => exact ⟨x + 1, by omega, by go_num, HN.out, _, rfl⟩
                    case measure => simp [intOf]; omega
              · have hqb : (q == -1) = false := by simp [hq]
                have HQ := Lib.hid hq
                clear hq
                by_cases y0 : y < 0
                · have HV := Lib.hid (HBX.out (by simp [inRange, HQ.out]; omega))
                  go_wp2_with fail
                  go_quiet (fail)
                  go_wp2_with fail
                  go_ret
                  exact ⟨by rw [HV.out]; rfl, below_drewN hB.out _⟩
                · by_cases y1 : q < y
                  · have HV := Lib.hid (HBX.out (by simp [inRange, HQ.out]; omega))
                    go_wp2_with fail
                    go_quiet (fail)
                    go_wp2_with fail
                    go_ret
                    exact ⟨by rw [HV.out]; rfl, below_drewN hB.out _⟩
                  · have HN := Lib.hid (HGX.out (by simp [inRange, HQ.out]; omega))
                    go_wp2_with fail
                    go_quiet (fail)
                    go_wp2_with fail
                    go_roundw
                    case rel => exact ⟨x + 1, by omega, by go_num, HN.out, _, rfl⟩
                    case measure => simp [intOf]; omega
            · have HG := Lib.hid (row_good H2.out fun z hz => HJ.out z (by omega))
              go_wp2_with fail
              go_roundw
              case rel =>
                refine ⟨v + 1, by omega, by go_num, fun u hu => ?_, below_drewN HB.out n⟩
                by_cases huv : u = v
                · subst huv; rw [HP.out, HR.out]; exact HG.out
                · exact HI.out u (by omega)
              case measure => simp [intOf]; omega
        · have t2 : ((r.length : Int) != (most.length : Int)) = true := by rw [bne_iff_ne]; omega
          have HV := Lib.hid (HBAD.out (row_bad (.inl h2)))
          clear h2
          go_wp2_with fail
          go_ret
          exact ⟨by rw [HV.out]; rfl, hB.out⟩
      · have HV := Lib.hid (holds_good H1.out fun u hu => HI.out u (by omega))
        go_wp2_with fail
        go_ret
        exact ⟨by rw [HV.out]; rfl, hB.out⟩
  · have t1 : ((c.length : Int) != (g.ports.length : Int)) = true := by rw [bne_iff_ne]; omega
    have HV := Lib.hid (holds_bad (most := most) (.inl h1))
    clear h1
    go_enter Try.func73, Try.ntmps73
    go_wp2_with fail
    go_ret
    exact ⟨by rw [HV.out]; rfl, (Below.refl _ _).alloc (Nat.le_refl _) _⟩
end Go.Proofs.Ythapikakneikbaa
