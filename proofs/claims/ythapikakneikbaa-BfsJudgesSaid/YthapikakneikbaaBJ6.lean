/-
  Lemmas and walks for this claim, part 6: Gselfstabref23Tree, Gselfstabref23Legit, Gselfstabref23Claim, Gselfstabref23Named, Gselfstabref23Parents, Gselfstablaw23BfsJudges, PBfs, Open.
-/
import Derived.KernelRfl
import Derived.ProofKit
import Derived.OpenShut
import Derived.ChangeOld
import Derived.Below
import Derived.Deep.Slices
import Derived.Test.YthapikakneikbaaBJ5
namespace Go.Proofs.YthapikakneikbaaG
open Go.RowKit Go.Proofs.YthapikakneikbaaW.PrintWords Go.Proofs.YthapikakneikbaaW.PrintLast Go.Proofs.YthapikakneikbaaW.PrintMore
attribute [local go_sem] max2_int min2_int max_two min_two max_three min_three max_four min_four   -- for this text's walks alone
set_option linter.unusedVariables false
set_option linter.unusedSimpArgs false
/-! ### selfstabref23_Tree: function 93 -/
mutual
def selfstabref23_Tree.l0 : Nat → List (List Int) → Int → Int → List Int → Int → List Int → List (List (S60)) → Option (Bool)
 | 0, _, _, _, _, _, _, _ => none
 | k + 1, x1, x3, x4, x11, x12, x613000, x613001 => if x12 < (x613001.length : Int) then (if 0 ≤ x12 then (selfstabref23_Tree.l1 k x1 x3 x4 x11 x12 (-1) (wrap64 (((rd_L2 x613001 x12).length : Int) - 1)) x613000 x613001) else (none)) else (some true)
def selfstabref23_Tree.l1 : Nat → List (List Int) → Int → Int → List Int → Int → Int → Int → List Int → List (List (S60)) → Option (Bool)
 | 0, _, _, _, _, _, _, _, _, _ => none
 | k + 1, x1, x3, x4, x11, x12, x13, x14, x613000, x613001 => if x14 ≥ 0 then (if 0 ≤ x12 then (if x12 < (x613001.length : Int) then (if 0 ≤ x14 then (if x14 < ((rd_L2 x613001 x12).length : Int) then (if 0 ≤ ((rd_T60 (rd_L2 x613001 x12) x14).f0) then (if ((rd_T60 (rd_L2 x613001 x12) x14).f0) < (x11.length : Int) then (if x12 < (x11.length : Int) then (if (rd x11 ((rd_T60 (rd_L2 x613001 x12) x14).f0)) = (wrap64 ((rd x11 x12) - 1)) then (selfstabref23_Tree.l1 k x1 x3 x4 x11 x12 x14 (wrap64 (x14 - 1)) x613000 x613001) else (selfstabref23_Tree.l1 k x1 x3 x4 x11 x12 x13 (wrap64 (x14 - 1)) x613000 x613001)) else (none)) else (none)) else (none)) else (none)) else (none)) else (none)) else (none)) else (if 0 ≤ x12 then (if x12 < (x1.length : Int) then (if 0 ≤ x3 then (if x3 < ((rd_L3 x1 x12).length : Int) then (if x12 < (x11.length : Int) then (if (rd (rd_L3 x1 x12) x3) = (rd x11 x12) then (if 0 ≤ x4 then (if x4 < ((rd_L3 x1 x12).length : Int) then (if (rd (rd_L3 x1 x12) x4) = x13 then (selfstabref23_Tree.l0 k x1 x3 x4 x11 (wrap64 (x12 + 1)) x613000 x613001) else (some false)) else (none)) else (none)) else (some false)) else (none)) else (none)) else (none)) else (none)) else (none))
end
def selfstabref23_Tree.f (k : Nat) (l0_0 : List Int) (l0_1 : List (List (S60))) (l1 : List (List Int)) (a2 : Int) (a3 : Int) (a4 : Int) : Option (Bool) := (selfstabref01_Distances.f k l0_0 l0_1 a2).bind fun t613 => (selfstabref23_Tree.l0 k l1 a3 a4 t613 0 l0_0 l0_1)
theorem selfstabref23_Tree.mono_l : ∀ k, (∀ y0 y1 y2 y3 y4 y5 y6, LeO (selfstabref23_Tree.l0 k y0 y1 y2 y3 y4 y5 y6) (selfstabref23_Tree.l0 (k + 1) y0 y1 y2 y3 y4 y5 y6)) ∧ (∀ y0 y1 y2 y3 y4 y5 y6 y7 y8, LeO (selfstabref23_Tree.l1 k y0 y1 y2 y3 y4 y5 y6 y7 y8) (selfstabref23_Tree.l1 (k + 1) y0 y1 y2 y3 y4 y5 y6 y7 y8))
 | 0 => ⟨fun _ _ _ _ _ _ _ r h => by simp [selfstabref23_Tree.l0] at h, fun _ _ _ _ _ _ _ _ _ r h => by simp [selfstabref23_Tree.l1] at h⟩
 | k + 1 => by
  obtain ⟨ih0, ih1⟩ := selfstabref23_Tree.mono_l k
  refine ⟨?_, ?_⟩
  ·
   intro y0 y1 y2 y3 y4 y5 y6
   unfold selfstabref23_Tree.l0
   repeat' first
   | (with_reducible exact ih0 _ _ _ _ _ _ _)
   | (with_reducible exact ih1 _ _ _ _ _ _ _ _ _)
   | (with_reducible exact selfstabref01_Distances.mono _ _ _ _)
   | (with_reducible exact LeO.refl _)
   | (with_reducible exact LeO.none _)
   | (with_reducible refine LeO.ite ?_ ?_)
   | (with_reducible refine LeO.bind ?_ (fun _ => ?_))
   | exact ih0 _ _ _ _ _ _ _
   | exact ih1 _ _ _ _ _ _ _ _ _
   | exact selfstabref01_Distances.mono _ _ _ _
   | exact LeO.none _
   | refine LeO.ite ?_ ?_
   | refine LeO.bind ?_ (fun _ => ?_)
  ·
   intro y0 y1 y2 y3 y4 y5 y6 y7 y8
   unfold selfstabref23_Tree.l1
   repeat' first
   | (with_reducible exact ih0 _ _ _ _ _ _ _)
   | (with_reducible exact ih1 _ _ _ _ _ _ _ _ _)
   | (with_reducible exact selfstabref01_Distances.mono _ _ _ _)
   | (with_reducible exact LeO.refl _)
   | (with_reducible exact LeO.none _)
   | (with_reducible refine LeO.ite ?_ ?_)
   | (with_reducible refine LeO.bind ?_ (fun _ => ?_))
   | exact ih0 _ _ _ _ _ _ _
   | exact ih1 _ _ _ _ _ _ _ _ _
   | exact selfstabref01_Distances.mono _ _ _ _
   | exact LeO.none _
   | refine LeO.ite ?_ ?_
   | refine LeO.bind ?_ (fun _ => ?_)
theorem selfstabref23_Tree.mono : ∀ a0 a1 a2 a3 a4 a5 k, LeO (selfstabref23_Tree.f k a0 a1 a2 a3 a4 a5) (selfstabref23_Tree.f (k + 1) a0 a1 a2 a3 a4 a5) := by
 intro a0 a1 a2 a3 a4 a5 k
 obtain ⟨ih0, ih1⟩ := selfstabref23_Tree.mono_l k
 unfold selfstabref23_Tree.f
 repeat' first
   | (with_reducible exact ih0 _ _ _ _ _ _ _)
   | (with_reducible exact ih1 _ _ _ _ _ _ _ _ _)
   | (with_reducible exact selfstabref01_Distances.mono _ _ _ _)
   | (with_reducible exact LeO.refl _)
   | (with_reducible exact LeO.none _)
   | (with_reducible refine LeO.ite ?_ ?_)
   | (with_reducible refine LeO.bind ?_ (fun _ => ?_))
   | exact ih0 _ _ _ _ _ _ _
   | exact ih1 _ _ _ _ _ _ _ _ _
   | exact selfstabref01_Distances.mono _ _ _ _
   | exact LeO.none _
   | refine LeO.ite ?_ ?_
   | refine LeO.bind ?_ (fun _ => ?_)
set_option maxHeartbeats 8000000 in
set_option maxRecDepth 100000 in
theorem selfstabref23_Tree.calls (k : Nat) (A0_0 : Option Addr) (c0_0 : Nat) (l0_0 : List Int) (A0_1 : Option Addr) (c0_1 : Nat) (l0_1 : List (List (S60))) (A1 : Option Addr) (c1 : Nat) (l1 : List (List Int)) (a2 : Int) (a3 : Int) (a4 : Int) (r : Bool) (w : World) (hr0_0 : Kd.C (Kd.int .i64) w A0_0 l0_0.length l0_0) (hc0_0 : l0_0.length ≤ c0_0) (hr0_1 : Kd.C (Kd.slice 60 k60) w A0_1 l0_1.length l0_1) (hc0_1 : l0_1.length ≤ c0_1) (hr1 : Kd.C (Kd.slice 3 (Kd.int .i64)) w A1 l1.length l1) (hc1 : l1.length ≤ c1) (h : selfstabref23_Tree.f k l0_0 l0_1 l1 a2 a3 a4 = some r) :
  Calls Try.prog 93 #[.agg #[.slice A0_0 l0_0.length c0_0, .slice A0_1 l0_1.length c0_1], .slice A1 l1.length c1, .int .i64 a2, .int .i64 a3, .int .i64 a4] w fun e w' => e = .returned (.bool r) ∧ Below w.heap.size w w' := by
 have hu27 := Try.underlying27
 have HR0_0 := Aside0.mk hr0_0
 have HC0_0 := Aside0.mk hc0_0
 clear hr0_0 hc0_0
 have HR0_1 := Aside0.mk hr0_1
 have HC0_1 := Aside0.mk hc0_1
 clear hr0_1 hc0_1
 have HR1 := Aside0.mk hr1
 have HC1 := Aside0.mk hc1
 clear hr1 hc1
 have HB := Aside0.mk (Below.refl w.heap.size w)
 have H : ((selfstabref01_Distances.f k l0_0 l0_1 a2).bind fun t613 => (selfstabref23_Tree.l0 k l1 a3 a4 t613 0 l0_0 l0_1)) = some r := h
 clear h
 replace H := Option.bind_eq_some_iff.mp H
 obtain ⟨t613, A60, H⟩ := H
 replace H : (selfstabref23_Tree.l0 k l1 a3 a4 t613 0 l0_0 l0_1) = some r := H
 have A6 := Aside0.mk A60
 clear A60
 have H' := Aside0.mk H
 clear H
 go_enter Try.func93, Try.ntmps93
 go_wp2_with (first | ((with_reducible refine gate_dst (N := 5) rfl ?_); refine box_event ?hg (N := 5) ?hd (cs := #[.slice A0_0 l0_0.length c0_0, .slice A0_1 l0_1.length c0_1]) (t := 27) ?hr ?_; (case hd => rfl); (case hg => rfl); (case hr => first | (go_simp; done) | (go_simp; rfl)); intro gb612 hg w7 hbox hb; have n0_ := Aside0.mk (below_step (by repeat (first | (with_reducible first | exact HB.out | apply below_alloc | apply pw_below_drewN | apply below_drew1) | exact HB.out)) hb); have n1_ := Aside0.mk (hbox); have n2_ := Aside0.mk ((by rw [hg]; exact (below_size (by repeat (first | (with_reducible first | exact HB.out | apply below_alloc | apply pw_below_drewN | apply below_drew1) | exact HB.out))) : w.heap.size ≤ gb612)); have n3_ := Aside0.mk ((by rw [hg]; exact (below_size (by repeat (first | (with_reducible first | exact HB.out | apply below_alloc | apply pw_below_drewN | apply below_drew1) | exact HB.out))) : w.heap.size ≤ gb612)); clear HB; have HB := n0_; have BK612 := n1_; have GW612 := n2_; have GE612 := n3_; clear n0_ n1_ n2_ n3_; clear hb hbox hg; have hcz8_0 : w7.cell? ⟨gb612, 0, none⟩ = some (.slice A0_0 l0_0.length c0_0) := (blk_cell BK612.out 0).trans rfl; have hcz8_1 : w7.cell? ⟨gb612, 1, none⟩ = some (.slice A0_1 l0_1.length c0_1) := (blk_cell BK612.out 1).trans rfl; have hfz8_0 := blk_frozen BK612.out 0; have hfz8_1 := blk_frozen BK612.out 1) | (go_at_call 123; (with_reducible refine (selfstabref01_Distances.calls k _ _ l0_0 _ _ l0_1 a2 t613 _ ?side1 ?side2 ?side3 ?side4 A6.out).mono ?_); (case side1 => repeat (first | exact (Kd.C_below HR0_0.out HB.out) | (with_reducible refine Kd.C_alloc ?_ _) | (with_reducible refine Kd.C_drewN ?_ _) | (with_reducible refine Kd.C_drew ?_))); (case side2 => exact HC0_0.out); (case side3 => repeat (first | exact (Kd.C_below HR0_1.out HB.out) | (with_reducible refine Kd.C_alloc ?_ _) | (with_reducible refine Kd.C_drewN ?_ _) | (with_reducible refine Kd.C_drew ?_))); (case side4 => exact HC0_1.out); rintro e w9 ⟨v614, rfl, ho0, hb⟩; have n0_ := Aside0.mk (Kd.R_lower ho0 (below_size (by repeat (first | (with_reducible first | exact HB.out | apply below_alloc | apply pw_below_drewN | apply below_drew1 | refine below_set ?_ GE612.out) | exact HB.out)))); have n1_ := Aside0.mk (blk_below (g := gb612) (o := .cells #[.slice A0_0 l0_0.length c0_0, .slice A0_1 l0_1.length c0_1] 27 (0, 0)) (by (with_reducible repeat (first | refine blk_drewN ?_ _ | refine blk_drew ?_ | refine blk_alloc ?_ _)); exact BK612.out) hb); have n2_ := Aside0.mk (below_step (by repeat (first | (with_reducible first | exact HB.out | apply below_alloc | apply pw_below_drewN | apply below_drew1 | refine below_set ?_ GE612.out) | exact HB.out)) hb); clear BK612; clear HB; have HO615 := n0_; have BK612 := n1_; have HB := n2_; clear n0_ n1_ n2_; (try clear hb); (try clear hb2); (try clear hk); (try clear hi); (try clear ho0)))
 repeat (go_quiet (first | ((with_reducible refine gate_dst (N := 5) rfl ?_); refine box_event ?hg (N := 5) ?hd (cs := #[.slice A0_0 l0_0.length c0_0, .slice A0_1 l0_1.length c0_1]) (t := 27) ?hr ?_; (case hd => rfl); (case hg => rfl); (case hr => first | (go_simp; done) | (go_simp; rfl)); intro gb612 hg w7 hbox hb; have n0_ := Aside0.mk (below_step (by repeat (first | (with_reducible first | exact HB.out | apply below_alloc | apply pw_below_drewN | apply below_drew1) | exact HB.out)) hb); have n1_ := Aside0.mk (hbox); have n2_ := Aside0.mk ((by rw [hg]; exact (below_size (by repeat (first | (with_reducible first | exact HB.out | apply below_alloc | apply pw_below_drewN | apply below_drew1) | exact HB.out))) : w.heap.size ≤ gb612)); have n3_ := Aside0.mk ((by rw [hg]; exact (below_size (by repeat (first | (with_reducible first | exact HB.out | apply below_alloc | apply pw_below_drewN | apply below_drew1) | exact HB.out))) : w.heap.size ≤ gb612)); clear HB; have HB := n0_; have BK612 := n1_; have GW612 := n2_; have GE612 := n3_; clear n0_ n1_ n2_ n3_; clear hb hbox hg; have hcz8_0 : w7.cell? ⟨gb612, 0, none⟩ = some (.slice A0_0 l0_0.length c0_0) := (blk_cell BK612.out 0).trans rfl; have hcz8_1 : w7.cell? ⟨gb612, 1, none⟩ = some (.slice A0_1 l0_1.length c0_1) := (blk_cell BK612.out 1).trans rfl; have hfz8_0 := blk_frozen BK612.out 0; have hfz8_1 := blk_frozen BK612.out 1) | (go_at_call 123; (with_reducible refine (selfstabref01_Distances.calls k _ _ l0_0 _ _ l0_1 a2 t613 _ ?side1 ?side2 ?side3 ?side4 A6.out).mono ?_); (case side1 => repeat (first | exact (Kd.C_below HR0_0.out HB.out) | (with_reducible refine Kd.C_alloc ?_ _) | (with_reducible refine Kd.C_drewN ?_ _) | (with_reducible refine Kd.C_drew ?_))); (case side2 => exact HC0_0.out); (case side3 => repeat (first | exact (Kd.C_below HR0_1.out HB.out) | (with_reducible refine Kd.C_alloc ?_ _) | (with_reducible refine Kd.C_drewN ?_ _) | (with_reducible refine Kd.C_drew ?_))); (case side4 => exact HC0_1.out); rintro e w9 ⟨v614, rfl, ho0, hb⟩; have n0_ := Aside0.mk (Kd.R_lower ho0 (below_size (by repeat (first | (with_reducible first | exact HB.out | apply below_alloc | apply pw_below_drewN | apply below_drew1 | refine below_set ?_ GE612.out) | exact HB.out)))); have n1_ := Aside0.mk (blk_below (g := gb612) (o := .cells #[.slice A0_0 l0_0.length c0_0, .slice A0_1 l0_1.length c0_1] 27 (0, 0)) (by (with_reducible repeat (first | refine blk_drewN ?_ _ | refine blk_drew ?_ | refine blk_alloc ?_ _)); exact BK612.out) hb); have n2_ := Aside0.mk (below_step (by repeat (first | (with_reducible first | exact HB.out | apply below_alloc | apply pw_below_drewN | apply below_drew1 | refine below_set ?_ GE612.out) | exact HB.out)) hb); clear BK612; clear HB; have HO615 := n0_; have BK612 := n1_; have HB := n2_; clear n0_ n1_ n2_; (try clear hb); (try clear hb2); (try clear hk); (try clear hi); (try clear ho0))); try go_wp2_with (first | ((with_reducible refine gate_dst (N := 5) rfl ?_); refine box_event ?hg (N := 5) ?hd (cs := #[.slice A0_0 l0_0.length c0_0, .slice A0_1 l0_1.length c0_1]) (t := 27) ?hr ?_; (case hd => rfl); (case hg => rfl); (case hr => first | (go_simp; done) | (go_simp; rfl)); intro gb612 hg w7 hbox hb; have n0_ := Aside0.mk (below_step (by repeat (first | (with_reducible first | exact HB.out | apply below_alloc | apply pw_below_drewN | apply below_drew1) | exact HB.out)) hb); have n1_ := Aside0.mk (hbox); have n2_ := Aside0.mk ((by rw [hg]; exact (below_size (by repeat (first | (with_reducible first | exact HB.out | apply below_alloc | apply pw_below_drewN | apply below_drew1) | exact HB.out))) : w.heap.size ≤ gb612)); have n3_ := Aside0.mk ((by rw [hg]; exact (below_size (by repeat (first | (with_reducible first | exact HB.out | apply below_alloc | apply pw_below_drewN | apply below_drew1) | exact HB.out))) : w.heap.size ≤ gb612)); clear HB; have HB := n0_; have BK612 := n1_; have GW612 := n2_; have GE612 := n3_; clear n0_ n1_ n2_ n3_; clear hb hbox hg; have hcz8_0 : w7.cell? ⟨gb612, 0, none⟩ = some (.slice A0_0 l0_0.length c0_0) := (blk_cell BK612.out 0).trans rfl; have hcz8_1 : w7.cell? ⟨gb612, 1, none⟩ = some (.slice A0_1 l0_1.length c0_1) := (blk_cell BK612.out 1).trans rfl; have hfz8_0 := blk_frozen BK612.out 0; have hfz8_1 := blk_frozen BK612.out 1) | (go_at_call 123; (with_reducible refine (selfstabref01_Distances.calls k _ _ l0_0 _ _ l0_1 a2 t613 _ ?side1 ?side2 ?side3 ?side4 A6.out).mono ?_); (case side1 => repeat (first | exact (Kd.C_below HR0_0.out HB.out) | (with_reducible refine Kd.C_alloc ?_ _) | (with_reducible refine Kd.C_drewN ?_ _) | (with_reducible refine Kd.C_drew ?_))); (case side2 => exact HC0_0.out); (case side3 => repeat (first | exact (Kd.C_below HR0_1.out HB.out) | (with_reducible refine Kd.C_alloc ?_ _) | (with_reducible refine Kd.C_drewN ?_ _) | (with_reducible refine Kd.C_drew ?_))); (case side4 => exact HC0_1.out); rintro e w9 ⟨v614, rfl, ho0, hb⟩; have n0_ := Aside0.mk (Kd.R_lower ho0 (below_size (by repeat (first | (with_reducible first | exact HB.out | apply below_alloc | apply pw_below_drewN | apply below_drew1 | refine below_set ?_ GE612.out) | exact HB.out)))); have n1_ := Aside0.mk (blk_below (g := gb612) (o := .cells #[.slice A0_0 l0_0.length c0_0, .slice A0_1 l0_1.length c0_1] 27 (0, 0)) (by (with_reducible repeat (first | refine blk_drewN ?_ _ | refine blk_drew ?_ | refine blk_alloc ?_ _)); exact BK612.out) hb); have n2_ := Aside0.mk (below_step (by repeat (first | (with_reducible first | exact HB.out | apply below_alloc | apply pw_below_drewN | apply below_drew1 | refine below_set ?_ GE612.out) | exact HB.out)) hb); clear BK612; clear HB; have HO615 := n0_; have BK612 := n1_; have HB := n2_; clear n0_ n1_ n2_; (try clear hb); (try clear hb2); (try clear hk); (try clear hi); (try clear ho0))))
 go_loopg [12] k (fun kq v12 w' => ∃ (x12_1 : Int), v12 = .int .i64 x12_1 ∧ Aside0 (selfstabref23_Tree.l0 kq l1 a3 a4 t613 x12_1 l0_0 l0_1 = some r) ∧ Aside0 (kq ≤ k) ∧ Aside0 (Kd.R (Kd.int .i64) 3 w' w.heap.size (fun _ => True) v614 t613) ∧ Aside0 (w'.heap[gb612]? = some (.cells #[(.slice A0_0 l0_0.length c0_0), (.slice A0_1 l0_1.length c0_1)] 27 (0, 0))) ∧ Aside0 (Below w.heap.size w w'))
 case atStart => exact ⟨(0), (by first | rfl | (simp; done) | (simp [*]; done)), H', ⟨Nat.le_refl _⟩, ⟨by (with_reducible repeat (first | apply Kd.R_alloc | apply Kd.R_drewN | apply Kd.R_drew)); exact HO615.out⟩, ⟨by (with_reducible repeat (first | refine blk_drewN ?_ _ | refine blk_drew ?_ | refine blk_alloc ?_ _)); exact BK612.out⟩, ⟨by repeat (first | (with_reducible first | exact HB.out | apply below_alloc | apply pw_below_drewN | apply below_drew1 | refine below_set ?_ GE612.out) | exact HB.out)⟩⟩
 case round =>
  clear H'
  try clear c1
  try clear p2
  try clear c9
  try clear hcz8_0
  try clear hcz8_1
  try clear hfz8_0
  try clear hfz8_1
  obtain ⟨x12_1, rfl, HA, HK1, HO_11, BK612, HB⟩ := hrel
  cases gk with
  | zero => exact absurd HA.out (by simp [selfstabref23_Tree.l0])
  | succ k1 =>
   have H := HA.out
   clear HA
   simp only [selfstabref23_Tree.l0] at H
   by_cases c10 : x12_1 < (l0_1.length : Int)
   ·
    rw [if_pos c10] at H
    have c10b0 : decide (x12_1 < (l0_1.length : Int)) = true := decide_eq_true c10
    clear c10
    by_cases c11 : 0 ≤ x12_1
    ·
     rw [if_pos c11] at H
     have c11b0 : decide (0 ≤ x12_1) = true := decide_eq_true c11
     clear c11
     have H' := Aside0.mk H
     clear H
     have hcz12_0 : wr.cell? ⟨gb612, 0, none⟩ = some (.slice A0_0 l0_0.length c0_0) := (blk_cell BK612.out 0).trans rfl
     have hcz12_1 : wr.cell? ⟨gb612, 1, none⟩ = some (.slice A0_1 l0_1.length c0_1) := (blk_cell BK612.out 1).trans rfl
     have hfz12_0 := blk_frozen BK612.out 0
     have hfz12_1 := blk_frozen BK612.out 1
     have p616 : 0 ≤ (x12_1 : Int) := of_decide_eq_true (by first | (with_reducible assumption) | assumption)
     have q616 : x12_1 < (l0_1.length : Int) := of_decide_eq_true (by first | (with_reducible assumption) | assumption)
     obtain ⟨ad616, A616_0, c616_0, e616, hx616_0, hl616_0, hi616_0⟩ := at_L2 HR0_1.out x12_1 p616 q616
     cases e616
     replace hx616_0 := (HB.out.cell (World.block_lt_of_cell? w _ hx616_0)).trans hx616_0
     have HR616_0 := Aside0.mk hi616_0
     have HC616_0 := Aside0.mk hl616_0
     clear hi616_0 hl616_0
     replace p616 := eq_true p616
     replace q616 := eq_true q616
     go_wp2
     repeat (go_quiet (fail); try go_wp2)
     go_loopg [13, 14] k1 (fun kq v13 v14 w' => ∃ (x13_2 : Int) (x14_2 : Int), v13 = .int .i64 x13_2 ∧ v14 = .int .i64 x14_2 ∧ Aside0 (selfstabref23_Tree.l1 kq l1 a3 a4 t613 x12_1 x13_2 x14_2 l0_0 l0_1 = some r) ∧ Aside0 (kq ≤ k1) ∧ Aside0 (Kd.R (Kd.int .i64) 3 w' w.heap.size (fun _ => True) v614 t613) ∧ Aside0 (w'.heap[gb612]? = some (.cells #[(.slice A0_0 l0_0.length c0_0), (.slice (some ad616) l0_1.length c0_1)] 27 (0, 0))) ∧ Aside0 (Below w.heap.size w w'))
     case atStart => exact ⟨((-1)), (wrap64 (((rd_L2 l0_1 x12_1).length : Int) - 1)), (by first | rfl | (simp; done) | (simp [*]; done)), (by first | rfl | (simp; done) | (simp [*]; done)), H', ⟨Nat.le_refl _⟩, ⟨by (with_reducible repeat (first | apply Kd.R_alloc | apply Kd.R_drewN | apply Kd.R_drew)); exact HO_11.out⟩, ⟨by (with_reducible repeat (first | refine blk_drewN ?_ _ | refine blk_drew ?_ | refine blk_alloc ?_ _)); exact BK612.out⟩, ⟨by repeat (first | (with_reducible first | exact HB.out | apply below_alloc | apply pw_below_drewN | apply below_drew1 | refine below_set ?_ GE612.out) | exact HB.out)⟩⟩
     case round =>
      clear H'
      try clear c1
      try clear p2
      try clear c6
      try clear p6
      try clear q6
      try clear hx6
      try clear c9
      try clear c10
      try clear c10b0
      try clear c11
      try clear c11b0
      try clear hcz12_0
      try clear hcz12_1
      try clear hcz8_0
      try clear hcz8_1
      try clear hfz12_0
      try clear hfz12_1
      try clear hfz8_0
      try clear hfz8_1
      try clear hx616_0
      try clear p2
      try clear p616
      try clear q616
      obtain ⟨x13_2, x14_2, rfl, rfl, HA, HK2, HO_11, BK612, HB⟩ := hrel
      cases gk with
      | zero => exact absurd HA.out (by simp [selfstabref23_Tree.l1])
      | succ k2 =>
       have H := HA.out
       clear HA
       simp only [selfstabref23_Tree.l1] at H
       by_cases c13 : x14_2 ≥ 0
       ·
        rw [if_pos c13] at H
        have c13b0 : decide (0 ≤ x14_2) = true := decide_eq_true c13
        clear c13
        by_cases c14 : 0 ≤ x12_1
        ·
         rw [if_pos c14] at H
         have c14b0 : decide (0 ≤ x12_1) = true := decide_eq_true c14
         clear c14
         by_cases c15 : x12_1 < (l0_1.length : Int)
         ·
          rw [if_pos c15] at H
          have c15b0 : decide (x12_1 < (l0_1.length : Int)) = true := decide_eq_true c15
          clear c15
          by_cases c16 : 0 ≤ x14_2
          ·
           rw [if_pos c16] at H
           have c16b0 : decide (0 ≤ x14_2) = true := decide_eq_true c16
           clear c16
           by_cases c17 : x14_2 < ((rd_L2 l0_1 x12_1).length : Int)
           ·
            rw [if_pos c17] at H
            have c17b0 : decide (x14_2 < ((rd_L2 l0_1 x12_1).length : Int)) = true := decide_eq_true c17
            clear c17
            by_cases c18 : 0 ≤ ((rd_T60 (rd_L2 l0_1 x12_1) x14_2).f0)
            ·
             rw [if_pos c18] at H
             have c18b0 : decide (0 ≤ ((rd_T60 (rd_L2 l0_1 x12_1) x14_2).f0)) = true := decide_eq_true c18
             clear c18
             by_cases c19 : ((rd_T60 (rd_L2 l0_1 x12_1) x14_2).f0) < (t613.length : Int)
             ·
              rw [if_pos c19] at H
              have c19b0 : decide (((rd_T60 (rd_L2 l0_1 x12_1) x14_2).f0) < (t613.length : Int)) = true := decide_eq_true c19
              clear c19
              by_cases c20 : x12_1 < (t613.length : Int)
              ·
               rw [if_pos c20] at H
               have c20b0 : decide (x12_1 < (t613.length : Int)) = true := decide_eq_true c20
               clear c20
               by_cases c21 : (rd t613 ((rd_T60 (rd_L2 l0_1 x12_1) x14_2).f0)) = (wrap64 ((rd t613 x12_1) - 1))
               ·
                rw [if_pos c21] at H
                have c21b0 : ((rd t613 ((rd_T60 (rd_L2 l0_1 x12_1) x14_2).f0)) == (wrap64 ((rd t613 x12_1) - 1))) = true := beq_iff_eq.mpr c21
                have c21b1 : ((rd t613 ((rd_T60 (rd_L2 l0_1 x12_1) x14_2).f0)) != (wrap64 ((rd t613 x12_1) - 1))) = false := bne_eq_false_iff_eq.mpr c21
                clear c21
                have H' := Aside0.mk H
                clear H
                have hcz22_0 : wr.cell? ⟨gb612, 0, none⟩ = some (.slice A0_0 l0_0.length c0_0) := (blk_cell BK612.out 0).trans rfl
                have hcz22_1 : wr.cell? ⟨gb612, 1, none⟩ = some (.slice (some ad616) l0_1.length c0_1) := (blk_cell BK612.out 1).trans rfl
                have hfz22_0 := blk_frozen BK612.out 0
                have hfz22_1 := blk_frozen BK612.out 1
                have p617 : 0 ≤ (x12_1 : Int) := of_decide_eq_true (by first | (with_reducible assumption) | assumption)
                have q617 : x12_1 < (l0_1.length : Int) := of_decide_eq_true (by first | (with_reducible assumption) | assumption)
                obtain ⟨ad617, A617_0, c617_0, e617, hx617_0, hl617_0, hi617_0⟩ := at_L2 HR0_1.out x12_1 p617 q617
                obtain rfl : ad616 = ad617 := (by injection e617)
                replace hx617_0 := (HB.out.cell (World.block_lt_of_cell? w _ hx617_0)).trans hx617_0
                have HR617_0 := Aside0.mk hi617_0
                have HC617_0 := Aside0.mk hl617_0
                clear hi617_0 hl617_0
                replace p617 := eq_true p617
                replace q617 := eq_true q617
                have p618 : 0 ≤ (x14_2 : Int) := of_decide_eq_true (by first | (with_reducible assumption) | assumption)
                have q618 : x14_2 < ((rd_L2 l0_1 x12_1).length : Int) := of_decide_eq_true (by first | (with_reducible assumption) | assumption)
                obtain ⟨ad618, e618, hx618_0, hx618_1⟩ := at_T60 HR617_0.out x14_2 p618 q618
                cases e618
                replace hx618_0 := (HB.out.cell (World.block_lt_of_cell? w _ hx618_0)).trans hx618_0
                replace hx618_1 := (HB.out.cell (World.block_lt_of_cell? w _ hx618_1)).trans hx618_1
                replace p618 := eq_true p618
                replace q618 := eq_true q618
                obtain ⟨Ao23, co23, eo23⟩ := Kd.R_slice HO_11.out
                subst eo23
                have p619 : 0 ≤ (((rd_T60 (rd_L2 l0_1 x12_1) x14_2).f0) : Int) := of_decide_eq_true (by first | (with_reducible assumption) | assumption)
                have q619 : ((rd_T60 (rd_L2 l0_1 x12_1) x14_2).f0) < (t613.length : Int) := of_decide_eq_true (by first | (with_reducible assumption) | assumption)
                obtain ⟨ad619, e619, hx619_0⟩ := Kd.at_int (Kd.R_reads' HO_11.out).2.2 ((rd_T60 (rd_L2 l0_1 x12_1) x14_2).f0) p619 q619
                cases e619
                replace p619 := eq_true p619
                replace q619 := eq_true q619
                have p620 : 0 ≤ (x12_1 : Int) := of_decide_eq_true (by first | (with_reducible assumption) | assumption)
                have q620 : x12_1 < (t613.length : Int) := of_decide_eq_true (by first | (with_reducible assumption) | assumption)
                obtain ⟨ad620, e620, hx620_0⟩ := Kd.at_int (Kd.R_reads' HO_11.out).2.2 x12_1 p620 q620
                obtain rfl : ad619 = ad620 := (by injection e620)
                replace p620 := eq_true p620
                replace q620 := eq_true q620
                go_wp2
                repeat (go_quiet (fail); try go_wp2)
                go_roundg k2
                case measure => have := HK1.out; have := HK2.out; omega
                case rel => exact ⟨(x14_2), (wrap64 (x14_2 - 1)), (by first | rfl | (simp; done) | (simp [*]; done)), (by first | rfl | (simp; done) | (simp [*]; done)), H', ⟨by have := HK1.out; have := HK2.out; omega⟩, ⟨by (with_reducible repeat (first | apply Kd.R_alloc | apply Kd.R_drewN | apply Kd.R_drew)); exact HO_11.out⟩, ⟨by (with_reducible repeat (first | refine blk_drewN ?_ _ | refine blk_drew ?_ | refine blk_alloc ?_ _)); exact BK612.out⟩, ⟨by repeat (first | (with_reducible first | exact HB.out | apply below_alloc | apply pw_below_drewN | apply below_drew1 | refine below_set ?_ GE612.out) | exact HB.out)⟩⟩
               ·
                rw [if_neg c21] at H
                have c21b0 : ((rd t613 ((rd_T60 (rd_L2 l0_1 x12_1) x14_2).f0)) == (wrap64 ((rd t613 x12_1) - 1))) = false := beq_eq_false_iff_ne.mpr c21
                have c21b1 : ((rd t613 ((rd_T60 (rd_L2 l0_1 x12_1) x14_2).f0)) != (wrap64 ((rd t613 x12_1) - 1))) = true := bne_iff_ne.mpr c21
                have H' := Aside0.mk H
                clear H
                have hcz24_0 : wr.cell? ⟨gb612, 0, none⟩ = some (.slice A0_0 l0_0.length c0_0) := (blk_cell BK612.out 0).trans rfl
                have hcz24_1 : wr.cell? ⟨gb612, 1, none⟩ = some (.slice (some ad616) l0_1.length c0_1) := (blk_cell BK612.out 1).trans rfl
                have hfz24_0 := blk_frozen BK612.out 0
                have hfz24_1 := blk_frozen BK612.out 1
                have p617 : 0 ≤ (x12_1 : Int) := of_decide_eq_true (by first | (with_reducible assumption) | assumption)
                have q617 : x12_1 < (l0_1.length : Int) := of_decide_eq_true (by first | (with_reducible assumption) | assumption)
                obtain ⟨ad617, A617_0, c617_0, e617, hx617_0, hl617_0, hi617_0⟩ := at_L2 HR0_1.out x12_1 p617 q617
                obtain rfl : ad616 = ad617 := (by injection e617)
                replace hx617_0 := (HB.out.cell (World.block_lt_of_cell? w _ hx617_0)).trans hx617_0
                have HR617_0 := Aside0.mk hi617_0
                have HC617_0 := Aside0.mk hl617_0
                clear hi617_0 hl617_0
                replace p617 := eq_true p617
                replace q617 := eq_true q617
                have p618 : 0 ≤ (x14_2 : Int) := of_decide_eq_true (by first | (with_reducible assumption) | assumption)
                have q618 : x14_2 < ((rd_L2 l0_1 x12_1).length : Int) := of_decide_eq_true (by first | (with_reducible assumption) | assumption)
                obtain ⟨ad618, e618, hx618_0, hx618_1⟩ := at_T60 HR617_0.out x14_2 p618 q618
                cases e618
                replace hx618_0 := (HB.out.cell (World.block_lt_of_cell? w _ hx618_0)).trans hx618_0
                replace hx618_1 := (HB.out.cell (World.block_lt_of_cell? w _ hx618_1)).trans hx618_1
                replace p618 := eq_true p618
                replace q618 := eq_true q618
                obtain ⟨Ao25, co25, eo25⟩ := Kd.R_slice HO_11.out
                subst eo25
                have p619 : 0 ≤ (((rd_T60 (rd_L2 l0_1 x12_1) x14_2).f0) : Int) := of_decide_eq_true (by first | (with_reducible assumption) | assumption)
                have q619 : ((rd_T60 (rd_L2 l0_1 x12_1) x14_2).f0) < (t613.length : Int) := of_decide_eq_true (by first | (with_reducible assumption) | assumption)
                obtain ⟨ad619, e619, hx619_0⟩ := Kd.at_int (Kd.R_reads' HO_11.out).2.2 ((rd_T60 (rd_L2 l0_1 x12_1) x14_2).f0) p619 q619
                cases e619
                replace p619 := eq_true p619
                replace q619 := eq_true q619
                have p620 : 0 ≤ (x12_1 : Int) := of_decide_eq_true (by first | (with_reducible assumption) | assumption)
                have q620 : x12_1 < (t613.length : Int) := of_decide_eq_true (by first | (with_reducible assumption) | assumption)
                obtain ⟨ad620, e620, hx620_0⟩ := Kd.at_int (Kd.R_reads' HO_11.out).2.2 x12_1 p620 q620
                obtain rfl : ad619 = ad620 := (by injection e620)
                replace p620 := eq_true p620
                replace q620 := eq_true q620
                go_wp2
                repeat (go_quiet (fail); try go_wp2)
                go_roundg k2
                case measure => have := HK1.out; have := HK2.out; omega
                case rel => exact ⟨(x13_2), (wrap64 (x14_2 - 1)), (by first | rfl | (simp; done) | (simp [*]; done)), (by first | rfl | (simp; done) | (simp [*]; done)), H', ⟨by have := HK1.out; have := HK2.out; omega⟩, ⟨by (with_reducible repeat (first | apply Kd.R_alloc | apply Kd.R_drewN | apply Kd.R_drew)); exact HO_11.out⟩, ⟨by (with_reducible repeat (first | refine blk_drewN ?_ _ | refine blk_drew ?_ | refine blk_alloc ?_ _)); exact BK612.out⟩, ⟨by repeat (first | (with_reducible first | exact HB.out | apply below_alloc | apply pw_below_drewN | apply below_drew1 | refine below_set ?_ GE612.out) | exact HB.out)⟩⟩
              ·
               rw [if_neg c20] at H
               exact absurd H (by simp)
             ·
              rw [if_neg c19] at H
              exact absurd H (by simp)
            ·
             rw [if_neg c18] at H
             exact absurd H (by simp)
           ·
            rw [if_neg c17] at H
            exact absurd H (by simp)
          ·
           rw [if_neg c16] at H
           exact absurd H (by simp)
         ·
          rw [if_neg c15] at H
          exact absurd H (by simp)
        ·
         rw [if_neg c14] at H
         exact absurd H (by simp)
       ·
        rw [if_neg c13] at H
        have c13b0 : decide (0 ≤ x14_2) = false := decide_eq_false c13
        clear c13
        by_cases c26 : 0 ≤ x12_1
        ·
         rw [if_pos c26] at H
         have c26b0 : decide (0 ≤ x12_1) = true := decide_eq_true c26
         clear c26
         by_cases c27 : x12_1 < (l1.length : Int)
         ·
          rw [if_pos c27] at H
          have c27b0 : decide (x12_1 < (l1.length : Int)) = true := decide_eq_true c27
          clear c27
          by_cases c28 : 0 ≤ a3
          ·
           rw [if_pos c28] at H
           have c28b0 : decide (0 ≤ a3) = true := decide_eq_true c28
           clear c28
           by_cases c29 : a3 < ((rd_L3 l1 x12_1).length : Int)
           ·
            rw [if_pos c29] at H
            have c29b0 : decide (a3 < ((rd_L3 l1 x12_1).length : Int)) = true := decide_eq_true c29
            clear c29
            by_cases c30 : x12_1 < (t613.length : Int)
            ·
             rw [if_pos c30] at H
             have c30b0 : decide (x12_1 < (t613.length : Int)) = true := decide_eq_true c30
             clear c30
             by_cases c31 : (rd (rd_L3 l1 x12_1) a3) = (rd t613 x12_1)
             ·
              rw [if_pos c31] at H
              have c31b0 : ((rd (rd_L3 l1 x12_1) a3) == (rd t613 x12_1)) = true := beq_iff_eq.mpr c31
              have c31b1 : ((rd (rd_L3 l1 x12_1) a3) != (rd t613 x12_1)) = false := bne_eq_false_iff_eq.mpr c31
              clear c31
              by_cases c32 : 0 ≤ a4
              ·
               rw [if_pos c32] at H
               have c32b0 : decide (0 ≤ a4) = true := decide_eq_true c32
               clear c32
               by_cases c33 : a4 < ((rd_L3 l1 x12_1).length : Int)
               ·
                rw [if_pos c33] at H
                have c33b0 : decide (a4 < ((rd_L3 l1 x12_1).length : Int)) = true := decide_eq_true c33
                clear c33
                by_cases c34 : (rd (rd_L3 l1 x12_1) a4) = x13_2
                ·
                 rw [if_pos c34] at H
                 have c34b0 : ((rd (rd_L3 l1 x12_1) a4) == x13_2) = true := beq_iff_eq.mpr c34
                 have c34b1 : ((rd (rd_L3 l1 x12_1) a4) != x13_2) = false := bne_eq_false_iff_eq.mpr c34
                 clear c34
                 have H' := Aside0.mk H
                 clear H
                 have p621 : 0 ≤ (x12_1 : Int) := of_decide_eq_true (by first | (with_reducible assumption) | assumption)
                 have q621 : x12_1 < (l1.length : Int) := of_decide_eq_true (by first | (with_reducible assumption) | assumption)
                 obtain ⟨ad621, A621_0, c621_0, e621, hx621_0, hl621_0, hi621_0⟩ := at_L3 HR1.out x12_1 p621 q621
                 cases e621
                 replace hx621_0 := (HB.out.cell (World.block_lt_of_cell? w _ hx621_0)).trans hx621_0
                 have HR621_0 := Aside0.mk hi621_0
                 have HC621_0 := Aside0.mk hl621_0
                 clear hi621_0 hl621_0
                 replace p621 := eq_true p621
                 replace q621 := eq_true q621
                 have p622 : 0 ≤ (a3 : Int) := of_decide_eq_true (by first | (with_reducible assumption) | assumption)
                 have q622 : a3 < ((rd_L3 l1 x12_1).length : Int) := of_decide_eq_true (by first | (with_reducible assumption) | assumption)
                 obtain ⟨ad622, e622, hx622_0⟩ := Kd.at_int HR621_0.out a3 p622 q622
                 cases e622
                 replace hx622_0 := (HB.out.cell (World.block_lt_of_cell? w _ hx622_0)).trans hx622_0
                 replace p622 := eq_true p622
                 replace q622 := eq_true q622
                 obtain ⟨Ao35, co35, eo35⟩ := Kd.R_slice HO_11.out
                 subst eo35
                 have p623 : 0 ≤ (x12_1 : Int) := of_decide_eq_true (by first | (with_reducible assumption) | assumption)
                 have q623 : x12_1 < (t613.length : Int) := of_decide_eq_true (by first | (with_reducible assumption) | assumption)
                 obtain ⟨ad623, e623, hx623_0⟩ := Kd.at_int (Kd.R_reads' HO_11.out).2.2 x12_1 p623 q623
                 cases e623
                 replace p623 := eq_true p623
                 replace q623 := eq_true q623
                 have p624 : 0 ≤ (x12_1 : Int) := of_decide_eq_true (by first | (with_reducible assumption) | assumption)
                 have q624 : x12_1 < (l1.length : Int) := of_decide_eq_true (by first | (with_reducible assumption) | assumption)
                 obtain ⟨ad624, A624_0, c624_0, e624, hx624_0, hl624_0, hi624_0⟩ := at_L3 HR1.out x12_1 p624 q624
                 obtain rfl : ad621 = ad624 := (by injection e624)
                 replace hx624_0 := (HB.out.cell (World.block_lt_of_cell? w _ hx624_0)).trans hx624_0
                 have HR624_0 := Aside0.mk hi624_0
                 have HC624_0 := Aside0.mk hl624_0
                 clear hi624_0 hl624_0
                 replace p624 := eq_true p624
                 replace q624 := eq_true q624
                 have ea_ := Option.some.inj (hx621_0.symm.trans hx624_0)
                 injection ea_ with ea_ en_ ec_
                 subst ea_
                 subst ec_
                 clear en_
                 have p625 : 0 ≤ (a4 : Int) := of_decide_eq_true (by first | (with_reducible assumption) | assumption)
                 have q625 : a4 < ((rd_L3 l1 x12_1).length : Int) := of_decide_eq_true (by first | (with_reducible assumption) | assumption)
                 obtain ⟨ad625, e625, hx625_0⟩ := Kd.at_int HR624_0.out a4 p625 q625
                 cases e625
                 replace hx625_0 := (HB.out.cell (World.block_lt_of_cell? w _ hx625_0)).trans hx625_0
                 replace p625 := eq_true p625
                 replace q625 := eq_true q625
                 go_wp2
                 repeat (go_quiet (fail); try go_wp2)
                 go_roundg k2
                 case measure => have := HK1.out; have := HK2.out; omega
                 case rel => exact ⟨(wrap64 (x12_1 + 1)), (by first | rfl | (simp; done) | (simp [*]; done)), H', ⟨by have := HK1.out; have := HK2.out; omega⟩, ⟨by (with_reducible repeat (first | apply Kd.R_alloc | apply Kd.R_drewN | apply Kd.R_drew)); exact HO_11.out⟩, ⟨by (with_reducible repeat (first | refine blk_drewN ?_ _ | refine blk_drew ?_ | refine blk_alloc ?_ _)); exact BK612.out⟩, ⟨by repeat (first | (with_reducible first | exact HB.out | apply below_alloc | apply pw_below_drewN | apply below_drew1 | refine below_set ?_ GE612.out) | exact HB.out)⟩⟩
                ·
                 rw [if_neg c34] at H
                 have c34b0 : ((rd (rd_L3 l1 x12_1) a4) == x13_2) = false := beq_eq_false_iff_ne.mpr c34
                 have c34b1 : ((rd (rd_L3 l1 x12_1) a4) != x13_2) = true := bne_iff_ne.mpr c34
                 obtain rfl := Option.some.inj H
                 have p621 : 0 ≤ (x12_1 : Int) := of_decide_eq_true (by first | (with_reducible assumption) | assumption)
                 have q621 : x12_1 < (l1.length : Int) := of_decide_eq_true (by first | (with_reducible assumption) | assumption)
                 obtain ⟨ad621, A621_0, c621_0, e621, hx621_0, hl621_0, hi621_0⟩ := at_L3 HR1.out x12_1 p621 q621
                 cases e621
                 replace hx621_0 := (HB.out.cell (World.block_lt_of_cell? w _ hx621_0)).trans hx621_0
                 have HR621_0 := Aside0.mk hi621_0
                 have HC621_0 := Aside0.mk hl621_0
                 clear hi621_0 hl621_0
                 replace p621 := eq_true p621
                 replace q621 := eq_true q621
                 have p622 : 0 ≤ (a3 : Int) := of_decide_eq_true (by first | (with_reducible assumption) | assumption)
                 have q622 : a3 < ((rd_L3 l1 x12_1).length : Int) := of_decide_eq_true (by first | (with_reducible assumption) | assumption)
                 obtain ⟨ad622, e622, hx622_0⟩ := Kd.at_int HR621_0.out a3 p622 q622
                 cases e622
                 replace hx622_0 := (HB.out.cell (World.block_lt_of_cell? w _ hx622_0)).trans hx622_0
                 replace p622 := eq_true p622
                 replace q622 := eq_true q622
                 obtain ⟨Ao36, co36, eo36⟩ := Kd.R_slice HO_11.out
                 subst eo36
                 have p623 : 0 ≤ (x12_1 : Int) := of_decide_eq_true (by first | (with_reducible assumption) | assumption)
                 have q623 : x12_1 < (t613.length : Int) := of_decide_eq_true (by first | (with_reducible assumption) | assumption)
                 obtain ⟨ad623, e623, hx623_0⟩ := Kd.at_int (Kd.R_reads' HO_11.out).2.2 x12_1 p623 q623
                 cases e623
                 replace p623 := eq_true p623
                 replace q623 := eq_true q623
                 have p624 : 0 ≤ (x12_1 : Int) := of_decide_eq_true (by first | (with_reducible assumption) | assumption)
                 have q624 : x12_1 < (l1.length : Int) := of_decide_eq_true (by first | (with_reducible assumption) | assumption)
                 obtain ⟨ad624, A624_0, c624_0, e624, hx624_0, hl624_0, hi624_0⟩ := at_L3 HR1.out x12_1 p624 q624
                 obtain rfl : ad621 = ad624 := (by injection e624)
                 replace hx624_0 := (HB.out.cell (World.block_lt_of_cell? w _ hx624_0)).trans hx624_0
                 have HR624_0 := Aside0.mk hi624_0
                 have HC624_0 := Aside0.mk hl624_0
                 clear hi624_0 hl624_0
                 replace p624 := eq_true p624
                 replace q624 := eq_true q624
                 have ea_ := Option.some.inj (hx621_0.symm.trans hx624_0)
                 injection ea_ with ea_ en_ ec_
                 subst ea_
                 subst ec_
                 clear en_
                 have p625 : 0 ≤ (a4 : Int) := of_decide_eq_true (by first | (with_reducible assumption) | assumption)
                 have q625 : a4 < ((rd_L3 l1 x12_1).length : Int) := of_decide_eq_true (by first | (with_reducible assumption) | assumption)
                 obtain ⟨ad625, e625, hx625_0⟩ := Kd.at_int HR624_0.out a4 p625 q625
                 cases e625
                 replace hx625_0 := (HB.out.cell (World.block_lt_of_cell? w _ hx625_0)).trans hx625_0
                 replace p625 := eq_true p625
                 replace q625 := eq_true q625
                 go_wp2
                 repeat (go_quiet (fail); try go_wp2)
                 go_ret
                 exact ⟨by first | rfl | (simp [errW_none, errW_some] <;> rfl) | (simp [*, errW_none, errW_some] <;> rfl), by repeat (first | (with_reducible first | exact HB.out | apply below_alloc | apply pw_below_drewN | apply below_drew1 | refine below_set ?_ GE612.out) | exact HB.out)⟩
               ·
                rw [if_neg c33] at H
                exact absurd H (by simp)
              ·
               rw [if_neg c32] at H
               exact absurd H (by simp)
             ·
              rw [if_neg c31] at H
              have c31b0 : ((rd (rd_L3 l1 x12_1) a3) == (rd t613 x12_1)) = false := beq_eq_false_iff_ne.mpr c31
              have c31b1 : ((rd (rd_L3 l1 x12_1) a3) != (rd t613 x12_1)) = true := bne_iff_ne.mpr c31
              obtain rfl := Option.some.inj H
              have p621 : 0 ≤ (x12_1 : Int) := of_decide_eq_true (by first | (with_reducible assumption) | assumption)
              have q621 : x12_1 < (l1.length : Int) := of_decide_eq_true (by first | (with_reducible assumption) | assumption)
              obtain ⟨ad621, A621_0, c621_0, e621, hx621_0, hl621_0, hi621_0⟩ := at_L3 HR1.out x12_1 p621 q621
              cases e621
              replace hx621_0 := (HB.out.cell (World.block_lt_of_cell? w _ hx621_0)).trans hx621_0
              have HR621_0 := Aside0.mk hi621_0
              have HC621_0 := Aside0.mk hl621_0
              clear hi621_0 hl621_0
              replace p621 := eq_true p621
              replace q621 := eq_true q621
              have p622 : 0 ≤ (a3 : Int) := of_decide_eq_true (by first | (with_reducible assumption) | assumption)
              have q622 : a3 < ((rd_L3 l1 x12_1).length : Int) := of_decide_eq_true (by first | (with_reducible assumption) | assumption)
              obtain ⟨ad622, e622, hx622_0⟩ := Kd.at_int HR621_0.out a3 p622 q622
              cases e622
              replace hx622_0 := (HB.out.cell (World.block_lt_of_cell? w _ hx622_0)).trans hx622_0
              replace p622 := eq_true p622
              replace q622 := eq_true q622
              obtain ⟨Ao37, co37, eo37⟩ := Kd.R_slice HO_11.out
              subst eo37
              have p623 : 0 ≤ (x12_1 : Int) := of_decide_eq_true (by first | (with_reducible assumption) | assumption)
              have q623 : x12_1 < (t613.length : Int) := of_decide_eq_true (by first | (with_reducible assumption) | assumption)
              obtain ⟨ad623, e623, hx623_0⟩ := Kd.at_int (Kd.R_reads' HO_11.out).2.2 x12_1 p623 q623
              cases e623
              replace p623 := eq_true p623
              replace q623 := eq_true q623
              go_wp2
              repeat (go_quiet (fail); try go_wp2)
              go_ret
              exact ⟨by first | rfl | (simp [errW_none, errW_some] <;> rfl) | (simp [*, errW_none, errW_some] <;> rfl), by repeat (first | (with_reducible first | exact HB.out | apply below_alloc | apply pw_below_drewN | apply below_drew1 | refine below_set ?_ GE612.out) | exact HB.out)⟩
            ·
             rw [if_neg c30] at H
             exact absurd H (by simp)
           ·
            rw [if_neg c29] at H
            exact absurd H (by simp)
          ·
           rw [if_neg c28] at H
           exact absurd H (by simp)
         ·
          rw [if_neg c27] at H
          exact absurd H (by simp)
        ·
         rw [if_neg c26] at H
         exact absurd H (by simp)
    ·
     rw [if_neg c11] at H
     exact absurd H (by simp)
   ·
    rw [if_neg c10] at H
    have c10b0 : decide (x12_1 < (l0_1.length : Int)) = false := decide_eq_false c10
    clear c10
    obtain rfl := Option.some.inj H
    have hcz38_0 : wr.cell? ⟨gb612, 0, none⟩ = some (.slice A0_0 l0_0.length c0_0) := (blk_cell BK612.out 0).trans rfl
    have hcz38_1 : wr.cell? ⟨gb612, 1, none⟩ = some (.slice A0_1 l0_1.length c0_1) := (blk_cell BK612.out 1).trans rfl
    have hfz38_0 := blk_frozen BK612.out 0
    have hfz38_1 := blk_frozen BK612.out 1
    go_wp2
    repeat (go_quiet (fail); try go_wp2)
    go_ret
    exact ⟨by first | rfl | (simp [errW_none, errW_some] <;> rfl) | (simp [*, errW_none, errW_some] <;> rfl), by repeat (first | (with_reducible first | exact HB.out | apply below_alloc | apply pw_below_drewN | apply below_drew1 | refine below_set ?_ GE612.out) | exact HB.out)⟩
end Go.Proofs.YthapikakneikbaaG
namespace Go.Proofs.YthapikakneikbaaG
open Go.RowKit Go.Proofs.YthapikakneikbaaW.PrintWords Go.Proofs.YthapikakneikbaaW.PrintLast Go.Proofs.YthapikakneikbaaW.PrintMore
attribute [local go_sem] max2_int min2_int max_two min_two max_three min_three max_four min_four   -- for this text's walks alone
set_option linter.unusedVariables false
set_option linter.unusedSimpArgs false
/-! ### selfstabref23_Legit: function 41 -/
def selfstabref23_Legit.f (k : Nat) (l0_0 : List Int) (l0_1 : List (List (S60))) (l1 : List (List Int)) : Option (Bool) := (selfstabref23_Fit.f k l0_0 l0_1).bind fun t627 => (if t627 = true then ((selfstabref23_Vars.f).bind fun t628 => ((selfstabref23_Config.f l0_0 l0_1 l1 t628).bind fun t631 => (if t631 = true then ((selfstabref23_Tree.f k l0_0 l0_1 l1 0 0 1).bind fun t632 => (some t632)) else (some false)))) else (some false))
theorem selfstabref23_Legit.mono : ∀ a0 a1 a2 k, LeO (selfstabref23_Legit.f k a0 a1 a2) (selfstabref23_Legit.f (k + 1) a0 a1 a2) := by
 intro a0 a1 a2 k
 unfold selfstabref23_Legit.f
 repeat' first
   | (with_reducible exact selfstabref23_Fit.mono _ _ _)
   | (with_reducible exact selfstabref23_Tree.mono _ _ _ _ _ _ _)
   | (with_reducible exact LeO.refl _)
   | (with_reducible exact LeO.none _)
   | (with_reducible refine LeO.ite ?_ ?_)
   | (with_reducible refine LeO.bind ?_ (fun _ => ?_))
   | exact selfstabref23_Fit.mono _ _ _
   | exact selfstabref23_Tree.mono _ _ _ _ _ _ _
   | exact LeO.none _
   | refine LeO.ite ?_ ?_
   | refine LeO.bind ?_ (fun _ => ?_)
def selfstabref23_Legit.T1 : Bool × List (List Nat × List Nat) := (true, [([], []), ([0], [0]), ([1, 1], [1]), ([2], [2]), ([2], [2]), ([2, 2], [2]), ([3, 4, 5, 5, 2], [2, 3, 4, 5]), ([2, 6], [2, 6]), ([7, 6], [7]), ([8], [8]), ([8], [8]), ([9, 10, 8, 8], [8, 9, 10]), ([8, 11], [8, 11]), ([12, 11, 0, 1, 2, 3, 4, 5, 6, 7, 8, 9, 10, 11, 12], [12])])
def selfstabref23_Legit.B1 : List Nat := [0, 1, 3, 7, 7, 7, 63, 127, 255, 511, 511, 2047, 4095, 8191]
theorem selfstabref23_Legit.tab1 : rtab .any (opsOf Try.f41 1) = selfstabref23_Legit.T1 := by kernel_rfl
theorem selfstabref23_Legit.bits1 : waitsOk selfstabref23_Legit.T1.2 selfstabref23_Legit.B1 = true := by kernel_rfl
set_option maxHeartbeats 8000000 in
set_option maxRecDepth 100000 in
theorem selfstabref23_Legit.calls (k : Nat) (A0_0 : Option Addr) (c0_0 : Nat) (l0_0 : List Int) (A0_1 : Option Addr) (c0_1 : Nat) (l0_1 : List (List (S60))) (A1 : Option Addr) (c1 : Nat) (l1 : List (List Int)) (r : Bool) (w : World) (hr0_0 : Kd.C (Kd.int .i64) w A0_0 l0_0.length l0_0) (hc0_0 : l0_0.length ≤ c0_0) (hr0_1 : Kd.C (Kd.slice 60 k60) w A0_1 l0_1.length l0_1) (hc0_1 : l0_1.length ≤ c0_1) (hr1 : Kd.C (Kd.slice 3 (Kd.int .i64)) w A1 l1.length l1) (hc1 : l1.length ≤ c1) (h : selfstabref23_Legit.f k l0_0 l0_1 l1 = some r) :
  Calls Try.prog 41 #[.agg #[.slice A0_0 l0_0.length c0_0, .slice A0_1 l0_1.length c0_1], .slice A1 l1.length c1] w fun e w' => e = .returned (.bool r) ∧ Below w.heap.size w w' := by
 have hu27 := Try.underlying27
 have HR0_0 := Aside0.mk hr0_0
 have HC0_0 := Aside0.mk hc0_0
 clear hr0_0 hc0_0
 have HR0_1 := Aside0.mk hr0_1
 have HC0_1 := Aside0.mk hc0_1
 clear hr0_1 hc0_1
 have HR1 := Aside0.mk hr1
 have HC1 := Aside0.mk hc1
 clear hr1 hc1
 have HB := Aside0.mk (Below.refl w.heap.size w)
 have H : ((selfstabref23_Fit.f k l0_0 l0_1).bind fun t627 => (if t627 = true then ((selfstabref23_Vars.f).bind fun t628 => ((selfstabref23_Config.f l0_0 l0_1 l1 t628).bind fun t631 => (if t631 = true then ((selfstabref23_Tree.f k l0_0 l0_1 l1 0 0 1).bind fun t632 => (some t632)) else (some false)))) else (some false))) = some r := h
 clear h
 replace H := Option.bind_eq_some_iff.mp H
 obtain ⟨t627, A30, H⟩ := H
 replace H : (if t627 = true then ((selfstabref23_Vars.f).bind fun t628 => ((selfstabref23_Config.f l0_0 l0_1 l1 t628).bind fun t631 => (if t631 = true then ((selfstabref23_Tree.f k l0_0 l0_1 l1 0 0 1).bind fun t632 => (some t632)) else (some false)))) else (some false)) = some r := H
 have A3 := Aside0.mk A30
 clear A30
 by_cases c4 : t627 = true
 ·
  subst c4
  have H1 : ((selfstabref23_Vars.f).bind fun t628 => ((selfstabref23_Config.f l0_0 l0_1 l1 t628).bind fun t631 => (if t631 = true then ((selfstabref23_Tree.f k l0_0 l0_1 l1 0 0 1).bind fun t632 => (some t632)) else (some false)))) = some r := by rw [if_pos rfl] at H; exact H
  clear H
  have H := H1
  clear H1
  replace H := Option.bind_eq_some_iff.mp H
  obtain ⟨t628, A50, H⟩ := H
  replace H : ((selfstabref23_Config.f l0_0 l0_1 l1 t628).bind fun t631 => (if t631 = true then ((selfstabref23_Tree.f k l0_0 l0_1 l1 0 0 1).bind fun t632 => (some t632)) else (some false))) = some r := H
  have A5 := Aside0.mk A50
  clear A50
  replace H := Option.bind_eq_some_iff.mp H
  obtain ⟨t631, A60, H⟩ := H
  replace H : (if t631 = true then ((selfstabref23_Tree.f k l0_0 l0_1 l1 0 0 1).bind fun t632 => (some t632)) else (some false)) = some r := H
  have A6 := Aside0.mk A60
  clear A60
  by_cases c7 : t631 = true
  ·
   subst c7
   have H1 : ((selfstabref23_Tree.f k l0_0 l0_1 l1 0 0 1).bind fun t632 => (some t632)) = some r := by rw [if_pos rfl] at H; exact H
   clear H
   have H := H1
   clear H1
   replace H := Option.bind_eq_some_iff.mp H
   obtain ⟨t632, A80, H⟩ := H
   replace H : (some t632) = some r := H
   have A8 := Aside0.mk A80
   clear A80
   obtain rfl := Option.some.inj H
   go_enter Try.func41, Try.ntmps41
   try go_wp2_with (first | ((with_reducible refine gate_dst (N := 2) rfl ?_); refine box_event ?hg (N := 2) ?hd (cs := #[.slice A0_0 l0_0.length c0_0, .slice A0_1 l0_1.length c0_1]) (t := 27) ?hr ?_; (case hd => rfl); (case hg => rfl); (case hr => first | (go_simp; done) | (go_simp; rfl)); intro gb626 hg w9 hbox hb; have n0_ := Aside0.mk (below_step (by repeat (first | (with_reducible first | exact HB.out | apply below_alloc | apply pw_below_drewN | apply below_drew1) | exact HB.out)) hb); have n1_ := Aside0.mk (hbox); have n2_ := Aside0.mk ((by rw [hg]; exact (below_size (by repeat (first | (with_reducible first | exact HB.out | apply below_alloc | apply pw_below_drewN | apply below_drew1) | exact HB.out))) : w.heap.size ≤ gb626)); have n3_ := Aside0.mk ((by rw [hg]; exact (below_size (by repeat (first | (with_reducible first | exact HB.out | apply below_alloc | apply pw_below_drewN | apply below_drew1) | exact HB.out))) : w.heap.size ≤ gb626)); clear HB; have HB := n0_; have BK626 := n1_; have GW626 := n2_; have GE626 := n3_; clear n0_ n1_ n2_ n3_; clear hb hbox hg))
   have n0_ := Aside0.mk (blk_drew BK626.out)
   have n1_ := Aside0.mk (below_drew1 HB.out)
   clear BK626
   clear HB
   have BK626 := n0_
   have HB := n1_
   clear n0_ n1_
   refine start_ (n := 14) (S := fun w' => w'.cell? ⟨gb626, 0, none⟩ = some (.slice A0_0 l0_0.length c0_0) ∧ w'.cell? ⟨gb626, 1, none⟩ = some (.slice A0_1 l0_1.length c0_1)) (ds := []) #[false, false, false, false, false, false, false, false, false, false, false, false, false, false] (by kernel_rfl) rfl rfl ⟨(blk_cell BK626.out 0).trans rfl, (blk_cell BK626.out 1).trans rfl⟩ (fun hHeld => ?_); refine with_tabW selfstabref23_Legit.tab1 selfstabref23_Legit.bits1 (fun HT_ HW_ => ?_)
   generalize w9.drew = w10 at BK626 HB hHeld ⊢
   refine take_ (i := 0) (N := some 5) (v := ?_) (a' := ?_) #[true, false, false, false, false, false, false, false, false, false, false, false, false, false] rfl rfl (take_ofW HT_.out HW_.out (by kernel_rfl)) (fun _ _ _ h => h) (Or.inl ⟨by rfl, ?_⟩) hHeld ?_ ?_
   rotate_left
   ·
    rintro w' ⟨s0, s1⟩
    go_simp
    with_reducible rfl
   rotate_left
   ·
    simp only [Act.put, List.setIfInBounds_toArray, List.set_cons_zero, List.set_cons_succ, i64_w, i32_w]
    rfl
   refine one_ (i := 1) (N := some 6) #[true, true, false, false, false, false, false, false, false, false, false, false, false, false] rfl rfl (one_of HT_.out (by kernel_rfl)) (by decide) (fun K hK => ?_)
   refine goes_ Try.func39 (by kernel_rfl) rfl #[.agg #[.slice A0_0 l0_0.length c0_0, .slice A0_1 l0_1.length c0_1]] (by rfl) rfl rfl (by (try simp only [List.map_toArray, List.map_cons, List.map_nil]); first | done | rfl | (simp only [List.length_drop, List.length_take]; rfl)) ?_
   with_reducible refine (selfstabref23_Fit.calls k _ _ l0_0 _ _ l0_1 true _ ?side1 ?side2 ?side3 ?side4 A3.out).mono ?_
   (case side1 => repeat (first | exact (Kd.C_below HR0_0.out HB.out) | (with_reducible refine Kd.C_alloc ?_ _) | (with_reducible refine Kd.C_drewN ?_ _) | (with_reducible refine Kd.C_drew ?_)))
   (case side2 => exact HC0_0.out)
   (case side3 => repeat (first | exact (Kd.C_below HR0_1.out HB.out) | (with_reducible refine Kd.C_alloc ?_ _) | (with_reducible refine Kd.C_drewN ?_ _) | (with_reducible refine Kd.C_drew ?_)))
   (case side4 => exact HC0_1.out)
   rintro e w11 ⟨rfl, hb⟩
   refine ⟨_, rfl, ?_⟩
   have n0_ := Aside0.mk (blk_below (g := gb626) (o := .cells #[.slice A0_0 l0_0.length c0_0, .slice A0_1 l0_1.length c0_1] 27 (0, 0)) (by (with_reducible repeat (first | refine blk_drewN ?_ _ | refine blk_drew ?_ | refine blk_alloc ?_ _)); exact BK626.out) hb)
   have n1_ := Aside0.mk (below_step (by repeat (first | (with_reducible first | exact HB.out | apply below_alloc | apply pw_below_drewN | apply below_drew1 | refine below_set ?_ GE626.out) | exact HB.out)) hb)
   clear BK626
   clear HB
   have BK626 := n0_
   have HB := n1_
   clear n0_ n1_
   (try clear hb)
   (try clear hb2)
   (try clear hk)
   (try clear hi)
   refine hK.out _ _ ⟨(blk_cell BK626.out 0).trans rfl, (blk_cell BK626.out 1).trans rfl⟩ (fun hHeld => ?_)
   clear hK K
   refine norm_ (a' := ?_) ?_ ?_
   rotate_left
   ·
    show Act.put _ (some 6) _ = _
    simp only [Act.put, List.setIfInBounds_toArray, List.set_cons_zero, List.set_cons_succ, i64_w, i32_w]
    rfl
   refine pure_ (i := 2) (N := some 7) (v := ?_) (a' := ?_) #[true, true, true, false, false, false, false, false, false, false, false, false, false, false] rfl rfl (any_of HT_.out (by kernel_rfl)) (fun _ _ _ h => h) (Or.inl ⟨by rfl, ?_⟩) ?_ ?_
   rotate_left
   ·
    intro w'
    go_simp
    with_reducible rfl
   rotate_left
   ·
    simp only [Act.put, List.setIfInBounds_toArray, List.set_cons_zero, List.set_cons_succ, i64_w, i32_w]
    rfl
   refine pure_ (i := 4) (N := some 9) (v := ?_) (a' := ?_) #[true, true, true, false, true, false, false, false, false, false, false, false, false, false] rfl rfl (any_of HT_.out (by kernel_rfl)) (fun _ _ _ h => h) (Or.inl ⟨by rfl, ?_⟩) ?_ ?_
   rotate_left
   ·
    intro w'
    go_simp
    with_reducible rfl
   rotate_left
   ·
    simp only [Act.put, List.setIfInBounds_toArray, List.set_cons_zero, List.set_cons_succ, i64_w, i32_w]
    rfl
   refine take_ (i := 3) (N := some 8) (v := ?_) (a' := ?_) #[true, true, true, true, true, false, false, false, false, false, false, false, false, false] rfl rfl (take_ofW HT_.out HW_.out (by kernel_rfl)) (fun _ _ _ h => h) (Or.inl ⟨by rfl, ?_⟩) hHeld ?_ ?_
   rotate_left
   ·
    rintro w' ⟨s0, s1⟩
    go_simp
    with_reducible rfl
   rotate_left
   ·
    simp only [Act.put, List.setIfInBounds_toArray, List.set_cons_zero, List.set_cons_succ, i64_w, i32_w]
    rfl
   refine one_ (i := 5) (N := some 10) #[true, true, true, true, true, true, false, false, false, false, false, false, false, false] rfl rfl (one_of HT_.out (by kernel_rfl)) (by decide) (fun K hK => ?_)
   refine goes_ Try.func92 (by kernel_rfl) rfl #[] (by rfl) rfl rfl (by (try simp only [List.map_toArray, List.map_cons, List.map_nil]); first | done | rfl | (simp only [List.length_drop, List.length_take]; rfl)) ?_
   with_reducible refine (selfstabref23_Vars.calls  t628 _ A5.out).mono ?_
   rintro e w12 ⟨v629, rfl, ho0, hb⟩
   refine ⟨_, rfl, ?_⟩
   have n0_ := Aside0.mk (Kd.R_lower ho0 (below_size (by repeat (first | (with_reducible first | exact HB.out | apply below_alloc | apply pw_below_drewN | apply below_drew1 | refine below_set ?_ GE626.out) | exact HB.out))))
   have n1_ := Aside0.mk (blk_below (g := gb626) (o := .cells #[.slice A0_0 l0_0.length c0_0, .slice A0_1 l0_1.length c0_1] 27 (0, 0)) (by (with_reducible repeat (first | refine blk_drewN ?_ _ | refine blk_drew ?_ | refine blk_alloc ?_ _)); exact BK626.out) hb)
   have n2_ := Aside0.mk (below_step (by repeat (first | (with_reducible first | exact HB.out | apply below_alloc | apply pw_below_drewN | apply below_drew1 | refine below_set ?_ GE626.out) | exact HB.out)) hb)
   clear BK626
   clear HB
   have HO630 := n0_
   have BK626 := n1_
   have HB := n2_
   clear n0_ n1_ n2_
   (try clear hb)
   (try clear hb2)
   (try clear hk)
   (try clear hi)
   (try clear ho0)
   obtain ⟨Ao13, co13, eo13⟩ := Kd.R_slice HO630.out
   (first | subst eo13 | (injection eo13 with f1_ f2_ f3_; have f4_ := f1_.symm; have f5_ := f3_.symm; clear f1_ f2_ f3_; subst f4_; subst f5_))
   refine hK.out _ _ ⟨(blk_cell BK626.out 0).trans rfl, (blk_cell BK626.out 1).trans rfl⟩ (fun hHeld => ?_)
   clear hK K
   refine norm_ (a' := ?_) ?_ ?_
   rotate_left
   ·
    show Act.put _ (some 10) _ = _
    simp only [Act.put, List.setIfInBounds_toArray, List.set_cons_zero, List.set_cons_succ, i64_w, i32_w]
    rfl
   refine one_ (i := 6) (N := some 11) #[true, true, true, true, true, true, true, false, false, false, false, false, false, false] rfl rfl (one_of HT_.out (by kernel_rfl)) (by decide) (fun K hK => ?_)
   refine goes_ Try.func83 (by kernel_rfl) rfl #[.agg #[.slice A0_0 l0_0.length c0_0, .slice A0_1 l0_1.length c0_1], .slice A1 l1.length c1, .slice Ao13 t628.length co13] (by rfl) rfl rfl (by (try simp only [List.map_toArray, List.map_cons, List.map_nil]); first | done | rfl | (simp only [List.length_drop, List.length_take]; rfl)) ?_
   with_reducible refine (selfstabref23_Config.calls _ _ l0_0 _ _ l0_1 _ _ l1 _ _ t628 true _ ?side1 ?side2 ?side3 ?side4 ?side5 ?side6 ?side7 ?side8 A6.out).mono ?_
   (case side1 => repeat (first | exact (Kd.C_below HR0_0.out HB.out) | (with_reducible refine Kd.C_alloc ?_ _) | (with_reducible refine Kd.C_drewN ?_ _) | (with_reducible refine Kd.C_drew ?_)))
   (case side2 => exact HC0_0.out)
   (case side3 => repeat (first | exact (Kd.C_below HR0_1.out HB.out) | (with_reducible refine Kd.C_alloc ?_ _) | (with_reducible refine Kd.C_drewN ?_ _) | (with_reducible refine Kd.C_drew ?_)))
   (case side4 => exact HC0_1.out)
   (case side5 => repeat (first | exact (Kd.C_below HR1.out HB.out) | (with_reducible refine Kd.C_alloc ?_ _) | (with_reducible refine Kd.C_drewN ?_ _) | (with_reducible refine Kd.C_drew ?_)))
   (case side6 => exact HC1.out)
   (case side7 => repeat (first | exact (Kd.R_reads' HO630.out).2.2 | (with_reducible refine Kd.C_alloc ?_ _) | (with_reducible refine Kd.C_drewN ?_ _) | (with_reducible refine Kd.C_drew ?_)))
   (case side8 => exact (Kd.R_reads' HO630.out).2.1)
   rintro e w14 ⟨rfl, hb⟩
   refine ⟨_, rfl, ?_⟩
   have n0_ := Aside0.mk (Kd.R_below (by (with_reducible repeat (first | apply Kd.R_alloc | apply Kd.R_drewN | apply Kd.R_drew)); exact HO630.out) hb)
   have n1_ := Aside0.mk (blk_below (g := gb626) (o := .cells #[.slice A0_0 l0_0.length c0_0, .slice A0_1 l0_1.length c0_1] 27 (0, 0)) (by (with_reducible repeat (first | refine blk_drewN ?_ _ | refine blk_drew ?_ | refine blk_alloc ?_ _)); exact BK626.out) hb)
   have n2_ := Aside0.mk (below_step (by repeat (first | (with_reducible first | exact HB.out | apply below_alloc | apply pw_below_drewN | apply below_drew1 | refine below_set ?_ GE626.out) | exact HB.out)) hb)
   clear HO630
   clear BK626
   clear HB
   have HO630 := n0_
   have BK626 := n1_
   have HB := n2_
   clear n0_ n1_ n2_
   (try clear hb)
   (try clear hb2)
   (try clear hk)
   (try clear hi)
   refine hK.out _ _ ⟨(blk_cell BK626.out 0).trans rfl, (blk_cell BK626.out 1).trans rfl⟩ (fun hHeld => ?_)
   clear hK K
   refine norm_ (a' := ?_) ?_ ?_
   rotate_left
   ·
    show Act.put _ (some 11) _ = _
    simp only [Act.put, List.setIfInBounds_toArray, List.set_cons_zero, List.set_cons_succ, i64_w, i32_w]
    rfl
   refine pure_ (i := 7) (N := some 12) (v := ?_) (a' := ?_) #[true, true, true, true, true, true, true, true, false, false, false, false, false, false] rfl rfl (any_of HT_.out (by kernel_rfl)) (fun _ _ _ h => h) (Or.inl ⟨by rfl, ?_⟩) ?_ ?_
   rotate_left
   ·
    intro w'
    go_simp
    with_reducible rfl
   rotate_left
   ·
    simp only [Act.put, List.setIfInBounds_toArray, List.set_cons_zero, List.set_cons_succ, i64_w, i32_w]
    rfl
   refine pure_ (i := 8) (N := some 13) (v := ?_) (a' := ?_) #[true, true, true, true, true, true, true, true, true, false, false, false, false, false] rfl rfl (any_of HT_.out (by kernel_rfl)) (fun _ _ _ h => h) (Or.inl ⟨by rfl, ?_⟩) ?_ ?_
   rotate_left
   ·
    intro w'
    go_simp
    with_reducible rfl
   rotate_left
   ·
    simp only [Act.put, List.setIfInBounds_toArray, List.set_cons_zero, List.set_cons_succ, i64_w, i32_w]
    rfl
   refine pure_ (i := 10) (N := some 15) (v := ?_) (a' := ?_) #[true, true, true, true, true, true, true, true, true, false, true, false, false, false] rfl rfl (any_of HT_.out (by kernel_rfl)) (fun _ _ _ h => h) (Or.inl ⟨by rfl, ?_⟩) ?_ ?_
   rotate_left
   ·
    intro w'
    go_simp
    with_reducible rfl
   rotate_left
   ·
    simp only [Act.put, List.setIfInBounds_toArray, List.set_cons_zero, List.set_cons_succ, i64_w, i32_w]
    rfl
   refine take_ (i := 9) (N := some 14) (v := ?_) (a' := ?_) #[true, true, true, true, true, true, true, true, true, true, true, false, false, false] rfl rfl (take_ofW HT_.out HW_.out (by kernel_rfl)) (fun _ _ _ h => h) (Or.inl ⟨by rfl, ?_⟩) hHeld ?_ ?_
   rotate_left
   ·
    rintro w' ⟨s0, s1⟩
    go_simp
    with_reducible rfl
   rotate_left
   ·
    simp only [Act.put, List.setIfInBounds_toArray, List.set_cons_zero, List.set_cons_succ, i64_w, i32_w]
    rfl
   refine one_ (i := 11) (N := some 16) #[true, true, true, true, true, true, true, true, true, true, true, true, false, false] rfl rfl (one_of HT_.out (by kernel_rfl)) (by decide) (fun K hK => ?_)
   refine goes_ Try.func93 (by kernel_rfl) rfl #[.agg #[.slice A0_0 l0_0.length c0_0, .slice A0_1 l0_1.length c0_1], .slice A1 l1.length c1, .int .i64 0, .int .i64 0, .int .i64 1] (by rfl) rfl rfl (by (try simp only [List.map_toArray, List.map_cons, List.map_nil]); first | done | rfl | (simp only [List.length_drop, List.length_take]; rfl)) ?_
   with_reducible refine (selfstabref23_Tree.calls k _ _ l0_0 _ _ l0_1 _ _ l1 0 0 1 t632 _ ?side1 ?side2 ?side3 ?side4 ?side5 ?side6 A8.out).mono ?_
   (case side1 => repeat (first | exact (Kd.C_below HR0_0.out HB.out) | (with_reducible refine Kd.C_alloc ?_ _) | (with_reducible refine Kd.C_drewN ?_ _) | (with_reducible refine Kd.C_drew ?_)))
   (case side2 => exact HC0_0.out)
   (case side3 => repeat (first | exact (Kd.C_below HR0_1.out HB.out) | (with_reducible refine Kd.C_alloc ?_ _) | (with_reducible refine Kd.C_drewN ?_ _) | (with_reducible refine Kd.C_drew ?_)))
   (case side4 => exact HC0_1.out)
   (case side5 => repeat (first | exact (Kd.C_below HR1.out HB.out) | (with_reducible refine Kd.C_alloc ?_ _) | (with_reducible refine Kd.C_drewN ?_ _) | (with_reducible refine Kd.C_drew ?_)))
   (case side6 => exact HC1.out)
   rintro e w15 ⟨rfl, hb⟩
   refine ⟨_, rfl, ?_⟩
   have n0_ := Aside0.mk (Kd.R_below (by (with_reducible repeat (first | apply Kd.R_alloc | apply Kd.R_drewN | apply Kd.R_drew)); exact HO630.out) hb)
   have n1_ := Aside0.mk (blk_below (g := gb626) (o := .cells #[.slice A0_0 l0_0.length c0_0, .slice A0_1 l0_1.length c0_1] 27 (0, 0)) (by (with_reducible repeat (first | refine blk_drewN ?_ _ | refine blk_drew ?_ | refine blk_alloc ?_ _)); exact BK626.out) hb)
   have n2_ := Aside0.mk (below_step (by repeat (first | (with_reducible first | exact HB.out | apply below_alloc | apply pw_below_drewN | apply below_drew1 | refine below_set ?_ GE626.out) | exact HB.out)) hb)
   clear HO630
   clear BK626
   clear HB
   have HO630 := n0_
   have BK626 := n1_
   have HB := n2_
   clear n0_ n1_ n2_
   (try clear hb)
   (try clear hb2)
   (try clear hk)
   (try clear hi)
   refine hK.out _ _ ⟨(blk_cell BK626.out 0).trans rfl, (blk_cell BK626.out 1).trans rfl⟩ (fun hHeld => ?_)
   clear hK K
   refine norm_ (a' := ?_) ?_ ?_
   rotate_left
   ·
    show Act.put _ (some 16) _ = _
    simp only [Act.put, List.setIfInBounds_toArray, List.set_cons_zero, List.set_cons_succ, i64_w, i32_w]
    rfl
   refine pure_ (i := 12) (N := some 17) (v := ?_) (a' := ?_) #[true, true, true, true, true, true, true, true, true, true, true, true, true, false] rfl rfl (any_of HT_.out (by kernel_rfl)) (fun _ _ _ h => h) (Or.inl ⟨by rfl, ?_⟩) ?_ ?_
   rotate_left
   ·
    intro w'
    go_simp
    with_reducible rfl
   rotate_left
   ·
    simp only [Act.put, List.setIfInBounds_toArray, List.set_cons_zero, List.set_cons_succ, i64_w, i32_w]
    rfl
   refine pure_ (i := 13) (N := some 4) (v := ?_) (a' := ?_) #[true, true, true, true, true, true, true, true, true, true, true, true, true, true] rfl rfl (any_of HT_.out (by kernel_rfl)) (fun _ _ _ h => h) (Or.inl ⟨by rfl, ?_⟩) ?_ ?_
   rotate_left
   ·
    intro w'
    go_simp
    with_reducible rfl
   rotate_left
   ·
    simp only [Act.put, List.setIfInBounds_toArray, List.set_cons_zero, List.set_cons_succ, i64_w, i32_w]
    rfl
   refine done_ (done_of HT_.out (by kernel_rfl)) ?_
   try go_wp2
   go_ret
   exact ⟨by first | rfl | (simp [errW_none, errW_some] <;> rfl) | (simp [*, errW_none, errW_some] <;> rfl), by repeat (first | (with_reducible first | exact HB.out | apply below_alloc | apply pw_below_drewN | apply below_drew1 | refine below_set ?_ GE626.out) | exact HB.out)⟩
  ·
   replace c7 := Bool.eq_false_iff.mpr c7
   subst c7
   have H1 : (some false) = some r := by rw [if_neg (show ¬ (false = true) by decide)] at H; exact H
   clear H
   have H := H1
   clear H1
   obtain rfl := Option.some.inj H
   go_enter Try.func41, Try.ntmps41
   try go_wp2_with (first | ((with_reducible refine gate_dst (N := 2) rfl ?_); refine box_event ?hg (N := 2) ?hd (cs := #[.slice A0_0 l0_0.length c0_0, .slice A0_1 l0_1.length c0_1]) (t := 27) ?hr ?_; (case hd => rfl); (case hg => rfl); (case hr => first | (go_simp; done) | (go_simp; rfl)); intro gb626 hg w16 hbox hb; have n0_ := Aside0.mk (below_step (by repeat (first | (with_reducible first | exact HB.out | apply below_alloc | apply pw_below_drewN | apply below_drew1) | exact HB.out)) hb); have n1_ := Aside0.mk (hbox); have n2_ := Aside0.mk ((by rw [hg]; exact (below_size (by repeat (first | (with_reducible first | exact HB.out | apply below_alloc | apply pw_below_drewN | apply below_drew1) | exact HB.out))) : w.heap.size ≤ gb626)); have n3_ := Aside0.mk ((by rw [hg]; exact (below_size (by repeat (first | (with_reducible first | exact HB.out | apply below_alloc | apply pw_below_drewN | apply below_drew1) | exact HB.out))) : w.heap.size ≤ gb626)); clear HB; have HB := n0_; have BK626 := n1_; have GW626 := n2_; have GE626 := n3_; clear n0_ n1_ n2_ n3_; clear hb hbox hg))
   have n0_ := Aside0.mk (blk_drew BK626.out)
   have n1_ := Aside0.mk (below_drew1 HB.out)
   clear BK626
   clear HB
   have BK626 := n0_
   have HB := n1_
   clear n0_ n1_
   refine start_ (n := 14) (S := fun w' => w'.cell? ⟨gb626, 0, none⟩ = some (.slice A0_0 l0_0.length c0_0) ∧ w'.cell? ⟨gb626, 1, none⟩ = some (.slice A0_1 l0_1.length c0_1)) (ds := []) #[false, false, false, false, false, false, false, false, false, false, false, false, false, false] (by kernel_rfl) rfl rfl ⟨(blk_cell BK626.out 0).trans rfl, (blk_cell BK626.out 1).trans rfl⟩ (fun hHeld => ?_); refine with_tabW selfstabref23_Legit.tab1 selfstabref23_Legit.bits1 (fun HT_ HW_ => ?_)
   generalize w16.drew = w17 at BK626 HB hHeld ⊢
   refine take_ (i := 0) (N := some 5) (v := ?_) (a' := ?_) #[true, false, false, false, false, false, false, false, false, false, false, false, false, false] rfl rfl (take_ofW HT_.out HW_.out (by kernel_rfl)) (fun _ _ _ h => h) (Or.inl ⟨by rfl, ?_⟩) hHeld ?_ ?_
   rotate_left
   ·
    rintro w' ⟨s0, s1⟩
    go_simp
    with_reducible rfl
   rotate_left
   ·
    simp only [Act.put, List.setIfInBounds_toArray, List.set_cons_zero, List.set_cons_succ, i64_w, i32_w]
    rfl
   refine one_ (i := 1) (N := some 6) #[true, true, false, false, false, false, false, false, false, false, false, false, false, false] rfl rfl (one_of HT_.out (by kernel_rfl)) (by decide) (fun K hK => ?_)
   refine goes_ Try.func39 (by kernel_rfl) rfl #[.agg #[.slice A0_0 l0_0.length c0_0, .slice A0_1 l0_1.length c0_1]] (by rfl) rfl rfl (by (try simp only [List.map_toArray, List.map_cons, List.map_nil]); first | done | rfl | (simp only [List.length_drop, List.length_take]; rfl)) ?_
   with_reducible refine (selfstabref23_Fit.calls k _ _ l0_0 _ _ l0_1 true _ ?side1 ?side2 ?side3 ?side4 A3.out).mono ?_
   (case side1 => repeat (first | exact (Kd.C_below HR0_0.out HB.out) | (with_reducible refine Kd.C_alloc ?_ _) | (with_reducible refine Kd.C_drewN ?_ _) | (with_reducible refine Kd.C_drew ?_)))
   (case side2 => exact HC0_0.out)
   (case side3 => repeat (first | exact (Kd.C_below HR0_1.out HB.out) | (with_reducible refine Kd.C_alloc ?_ _) | (with_reducible refine Kd.C_drewN ?_ _) | (with_reducible refine Kd.C_drew ?_)))
   (case side4 => exact HC0_1.out)
   rintro e w18 ⟨rfl, hb⟩
   refine ⟨_, rfl, ?_⟩
   have n0_ := Aside0.mk (blk_below (g := gb626) (o := .cells #[.slice A0_0 l0_0.length c0_0, .slice A0_1 l0_1.length c0_1] 27 (0, 0)) (by (with_reducible repeat (first | refine blk_drewN ?_ _ | refine blk_drew ?_ | refine blk_alloc ?_ _)); exact BK626.out) hb)
   have n1_ := Aside0.mk (below_step (by repeat (first | (with_reducible first | exact HB.out | apply below_alloc | apply pw_below_drewN | apply below_drew1 | refine below_set ?_ GE626.out) | exact HB.out)) hb)
   clear BK626
   clear HB
   have BK626 := n0_
   have HB := n1_
   clear n0_ n1_
   (try clear hb)
   (try clear hb2)
   (try clear hk)
   (try clear hi)
   refine hK.out _ _ ⟨(blk_cell BK626.out 0).trans rfl, (blk_cell BK626.out 1).trans rfl⟩ (fun hHeld => ?_)
   clear hK K
   refine norm_ (a' := ?_) ?_ ?_
   rotate_left
   ·
    show Act.put _ (some 6) _ = _
    simp only [Act.put, List.setIfInBounds_toArray, List.set_cons_zero, List.set_cons_succ, i64_w, i32_w]
    rfl
   refine pure_ (i := 2) (N := some 7) (v := ?_) (a' := ?_) #[true, true, true, false, false, false, false, false, false, false, false, false, false, false] rfl rfl (any_of HT_.out (by kernel_rfl)) (fun _ _ _ h => h) (Or.inl ⟨by rfl, ?_⟩) ?_ ?_
   rotate_left
   ·
    intro w'
    go_simp
    with_reducible rfl
   rotate_left
   ·
    simp only [Act.put, List.setIfInBounds_toArray, List.set_cons_zero, List.set_cons_succ, i64_w, i32_w]
    rfl
   refine pure_ (i := 4) (N := some 9) (v := ?_) (a' := ?_) #[true, true, true, false, true, false, false, false, false, false, false, false, false, false] rfl rfl (any_of HT_.out (by kernel_rfl)) (fun _ _ _ h => h) (Or.inl ⟨by rfl, ?_⟩) ?_ ?_
   rotate_left
   ·
    intro w'
    go_simp
    with_reducible rfl
   rotate_left
   ·
    simp only [Act.put, List.setIfInBounds_toArray, List.set_cons_zero, List.set_cons_succ, i64_w, i32_w]
    rfl
   refine take_ (i := 3) (N := some 8) (v := ?_) (a' := ?_) #[true, true, true, true, true, false, false, false, false, false, false, false, false, false] rfl rfl (take_ofW HT_.out HW_.out (by kernel_rfl)) (fun _ _ _ h => h) (Or.inl ⟨by rfl, ?_⟩) hHeld ?_ ?_
   rotate_left
   ·
    rintro w' ⟨s0, s1⟩
    go_simp
    with_reducible rfl
   rotate_left
   ·
    simp only [Act.put, List.setIfInBounds_toArray, List.set_cons_zero, List.set_cons_succ, i64_w, i32_w]
    rfl
   refine one_ (i := 5) (N := some 10) #[true, true, true, true, true, true, false, false, false, false, false, false, false, false] rfl rfl (one_of HT_.out (by kernel_rfl)) (by decide) (fun K hK => ?_)
   refine goes_ Try.func92 (by kernel_rfl) rfl #[] (by rfl) rfl rfl (by (try simp only [List.map_toArray, List.map_cons, List.map_nil]); first | done | rfl | (simp only [List.length_drop, List.length_take]; rfl)) ?_
   with_reducible refine (selfstabref23_Vars.calls  t628 _ A5.out).mono ?_
   rintro e w19 ⟨v629, rfl, ho0, hb⟩
   refine ⟨_, rfl, ?_⟩
   have n0_ := Aside0.mk (Kd.R_lower ho0 (below_size (by repeat (first | (with_reducible first | exact HB.out | apply below_alloc | apply pw_below_drewN | apply below_drew1 | refine below_set ?_ GE626.out) | exact HB.out))))
   have n1_ := Aside0.mk (blk_below (g := gb626) (o := .cells #[.slice A0_0 l0_0.length c0_0, .slice A0_1 l0_1.length c0_1] 27 (0, 0)) (by (with_reducible repeat (first | refine blk_drewN ?_ _ | refine blk_drew ?_ | refine blk_alloc ?_ _)); exact BK626.out) hb)
   have n2_ := Aside0.mk (below_step (by repeat (first | (with_reducible first | exact HB.out | apply below_alloc | apply pw_below_drewN | apply below_drew1 | refine below_set ?_ GE626.out) | exact HB.out)) hb)
   clear BK626
   clear HB
   have HO630 := n0_
   have BK626 := n1_
   have HB := n2_
   clear n0_ n1_ n2_
   (try clear hb)
   (try clear hb2)
   (try clear hk)
   (try clear hi)
   (try clear ho0)
   obtain ⟨Ao20, co20, eo20⟩ := Kd.R_slice HO630.out
   (first | subst eo20 | (injection eo20 with f1_ f2_ f3_; have f4_ := f1_.symm; have f5_ := f3_.symm; clear f1_ f2_ f3_; subst f4_; subst f5_))
   refine hK.out _ _ ⟨(blk_cell BK626.out 0).trans rfl, (blk_cell BK626.out 1).trans rfl⟩ (fun hHeld => ?_)
   clear hK K
   refine norm_ (a' := ?_) ?_ ?_
   rotate_left
   ·
    show Act.put _ (some 10) _ = _
    simp only [Act.put, List.setIfInBounds_toArray, List.set_cons_zero, List.set_cons_succ, i64_w, i32_w]
    rfl
   refine one_ (i := 6) (N := some 11) #[true, true, true, true, true, true, true, false, false, false, false, false, false, false] rfl rfl (one_of HT_.out (by kernel_rfl)) (by decide) (fun K hK => ?_)
   refine goes_ Try.func83 (by kernel_rfl) rfl #[.agg #[.slice A0_0 l0_0.length c0_0, .slice A0_1 l0_1.length c0_1], .slice A1 l1.length c1, .slice Ao20 t628.length co20] (by rfl) rfl rfl (by (try simp only [List.map_toArray, List.map_cons, List.map_nil]); first | done | rfl | (simp only [List.length_drop, List.length_take]; rfl)) ?_
   with_reducible refine (selfstabref23_Config.calls _ _ l0_0 _ _ l0_1 _ _ l1 _ _ t628 false _ ?side1 ?side2 ?side3 ?side4 ?side5 ?side6 ?side7 ?side8 A6.out).mono ?_
   (case side1 => repeat (first | exact (Kd.C_below HR0_0.out HB.out) | (with_reducible refine Kd.C_alloc ?_ _) | (with_reducible refine Kd.C_drewN ?_ _) | (with_reducible refine Kd.C_drew ?_)))
   (case side2 => exact HC0_0.out)
   (case side3 => repeat (first | exact (Kd.C_below HR0_1.out HB.out) | (with_reducible refine Kd.C_alloc ?_ _) | (with_reducible refine Kd.C_drewN ?_ _) | (with_reducible refine Kd.C_drew ?_)))
   (case side4 => exact HC0_1.out)
   (case side5 => repeat (first | exact (Kd.C_below HR1.out HB.out) | (with_reducible refine Kd.C_alloc ?_ _) | (with_reducible refine Kd.C_drewN ?_ _) | (with_reducible refine Kd.C_drew ?_)))
   (case side6 => exact HC1.out)
   (case side7 => repeat (first | exact (Kd.R_reads' HO630.out).2.2 | (with_reducible refine Kd.C_alloc ?_ _) | (with_reducible refine Kd.C_drewN ?_ _) | (with_reducible refine Kd.C_drew ?_)))
   (case side8 => exact (Kd.R_reads' HO630.out).2.1)
   rintro e w21 ⟨rfl, hb⟩
   refine ⟨_, rfl, ?_⟩
   have n0_ := Aside0.mk (Kd.R_below (by (with_reducible repeat (first | apply Kd.R_alloc | apply Kd.R_drewN | apply Kd.R_drew)); exact HO630.out) hb)
   have n1_ := Aside0.mk (blk_below (g := gb626) (o := .cells #[.slice A0_0 l0_0.length c0_0, .slice A0_1 l0_1.length c0_1] 27 (0, 0)) (by (with_reducible repeat (first | refine blk_drewN ?_ _ | refine blk_drew ?_ | refine blk_alloc ?_ _)); exact BK626.out) hb)
   have n2_ := Aside0.mk (below_step (by repeat (first | (with_reducible first | exact HB.out | apply below_alloc | apply pw_below_drewN | apply below_drew1 | refine below_set ?_ GE626.out) | exact HB.out)) hb)
   clear HO630
   clear BK626
   clear HB
   have HO630 := n0_
   have BK626 := n1_
   have HB := n2_
   clear n0_ n1_ n2_
   (try clear hb)
   (try clear hb2)
   (try clear hk)
   (try clear hi)
   refine hK.out _ _ ⟨(blk_cell BK626.out 0).trans rfl, (blk_cell BK626.out 1).trans rfl⟩ (fun hHeld => ?_)
   clear hK K
   refine norm_ (a' := ?_) ?_ ?_
   rotate_left
   ·
    show Act.put _ (some 11) _ = _
    simp only [Act.put, List.setIfInBounds_toArray, List.set_cons_zero, List.set_cons_succ, i64_w, i32_w]
    rfl
   refine pure_ (i := 7) (N := some 12) (v := ?_) (a' := ?_) #[true, true, true, true, true, true, true, true, false, false, false, false, false, false] rfl rfl (any_of HT_.out (by kernel_rfl)) (fun _ _ _ h => h) (Or.inl ⟨by rfl, ?_⟩) ?_ ?_
   rotate_left
   ·
    intro w'
    go_simp
    with_reducible rfl
   rotate_left
   ·
    simp only [Act.put, List.setIfInBounds_toArray, List.set_cons_zero, List.set_cons_succ, i64_w, i32_w]
    rfl
   refine pure_ (i := 8) (N := some 13) (v := ?_) (a' := ?_) #[true, true, true, true, true, true, true, true, true, false, false, false, false, false] rfl rfl (any_of HT_.out (by kernel_rfl)) (fun _ _ _ h => h) (Or.inl ⟨by rfl, ?_⟩) ?_ ?_
   rotate_left
   ·
    intro w'
    go_simp
    with_reducible rfl
   rotate_left
   ·
    simp only [Act.put, List.setIfInBounds_toArray, List.set_cons_zero, List.set_cons_succ, i64_w, i32_w]
    rfl
   refine pure_ (i := 9) (N := some 14) (v := undef) (a' := ?_) #[true, true, true, true, true, true, true, true, true, true, false, false, false, false] rfl rfl (any_of HT_.out (by kernel_rfl)) (fun _ _ _ h => h) (Or.inr ⟨by rfl, rfl⟩) ?_ ?_
   rotate_left
   ·
    simp only [Act.put, List.setIfInBounds_toArray, List.set_cons_zero, List.set_cons_succ, i64_w, i32_w]
    rfl
   refine pure_ (i := 10) (N := some 15) (v := undef) (a' := ?_) #[true, true, true, true, true, true, true, true, true, true, true, false, false, false] rfl rfl (any_of HT_.out (by kernel_rfl)) (fun _ _ _ h => h) (Or.inr ⟨by rfl, rfl⟩) ?_ ?_
   rotate_left
   ·
    simp only [Act.put, List.setIfInBounds_toArray, List.set_cons_zero, List.set_cons_succ, i64_w, i32_w]
    rfl
   refine pure_ (i := 11) (N := some 16) (v := undef) (a' := ?_) #[true, true, true, true, true, true, true, true, true, true, true, true, false, false] rfl rfl (any_of HT_.out (by kernel_rfl)) (fun _ _ _ h => h) (Or.inr ⟨by rfl, rfl⟩) ?_ ?_
   rotate_left
   ·
    simp only [Act.put, List.setIfInBounds_toArray, List.set_cons_zero, List.set_cons_succ, i64_w, i32_w]
    rfl
   refine pure_ (i := 12) (N := some 17) (v := ?_) (a' := ?_) #[true, true, true, true, true, true, true, true, true, true, true, true, true, false] rfl rfl (any_of HT_.out (by kernel_rfl)) (fun _ _ _ h => h) (Or.inl ⟨by rfl, ?_⟩) ?_ ?_
   rotate_left
   ·
    intro w'
    go_simp
    with_reducible rfl
   rotate_left
   ·
    simp only [Act.put, List.setIfInBounds_toArray, List.set_cons_zero, List.set_cons_succ, i64_w, i32_w]
    rfl
   refine pure_ (i := 13) (N := some 4) (v := ?_) (a' := ?_) #[true, true, true, true, true, true, true, true, true, true, true, true, true, true] rfl rfl (any_of HT_.out (by kernel_rfl)) (fun _ _ _ h => h) (Or.inl ⟨by rfl, ?_⟩) ?_ ?_
   rotate_left
   ·
    intro w'
    go_simp
    with_reducible rfl
   rotate_left
   ·
    simp only [Act.put, List.setIfInBounds_toArray, List.set_cons_zero, List.set_cons_succ, i64_w, i32_w]
    rfl
   refine done_ (done_of HT_.out (by kernel_rfl)) ?_
   try go_wp2
   go_ret
   exact ⟨by first | rfl | (simp [errW_none, errW_some] <;> rfl) | (simp [*, errW_none, errW_some] <;> rfl), by repeat (first | (with_reducible first | exact HB.out | apply below_alloc | apply pw_below_drewN | apply below_drew1 | refine below_set ?_ GE626.out) | exact HB.out)⟩
 ·
  replace c4 := Bool.eq_false_iff.mpr c4
  subst c4
  have H1 : (some false) = some r := by rw [if_neg (show ¬ (false = true) by decide)] at H; exact H
  clear H
  have H := H1
  clear H1
  obtain rfl := Option.some.inj H
  go_enter Try.func41, Try.ntmps41
  try go_wp2_with (first | ((with_reducible refine gate_dst (N := 2) rfl ?_); refine box_event ?hg (N := 2) ?hd (cs := #[.slice A0_0 l0_0.length c0_0, .slice A0_1 l0_1.length c0_1]) (t := 27) ?hr ?_; (case hd => rfl); (case hg => rfl); (case hr => first | (go_simp; done) | (go_simp; rfl)); intro gb626 hg w22 hbox hb; have n0_ := Aside0.mk (below_step (by repeat (first | (with_reducible first | exact HB.out | apply below_alloc | apply pw_below_drewN | apply below_drew1) | exact HB.out)) hb); have n1_ := Aside0.mk (hbox); have n2_ := Aside0.mk ((by rw [hg]; exact (below_size (by repeat (first | (with_reducible first | exact HB.out | apply below_alloc | apply pw_below_drewN | apply below_drew1) | exact HB.out))) : w.heap.size ≤ gb626)); have n3_ := Aside0.mk ((by rw [hg]; exact (below_size (by repeat (first | (with_reducible first | exact HB.out | apply below_alloc | apply pw_below_drewN | apply below_drew1) | exact HB.out))) : w.heap.size ≤ gb626)); clear HB; have HB := n0_; have BK626 := n1_; have GW626 := n2_; have GE626 := n3_; clear n0_ n1_ n2_ n3_; clear hb hbox hg))
  have n0_ := Aside0.mk (blk_drew BK626.out)
  have n1_ := Aside0.mk (below_drew1 HB.out)
  clear BK626
  clear HB
  have BK626 := n0_
  have HB := n1_
  clear n0_ n1_
  refine start_ (n := 14) (S := fun w' => w'.cell? ⟨gb626, 0, none⟩ = some (.slice A0_0 l0_0.length c0_0) ∧ w'.cell? ⟨gb626, 1, none⟩ = some (.slice A0_1 l0_1.length c0_1)) (ds := []) #[false, false, false, false, false, false, false, false, false, false, false, false, false, false] (by kernel_rfl) rfl rfl ⟨(blk_cell BK626.out 0).trans rfl, (blk_cell BK626.out 1).trans rfl⟩ (fun hHeld => ?_); refine with_tabW selfstabref23_Legit.tab1 selfstabref23_Legit.bits1 (fun HT_ HW_ => ?_)
  generalize w22.drew = w23 at BK626 HB hHeld ⊢
  refine take_ (i := 0) (N := some 5) (v := ?_) (a' := ?_) #[true, false, false, false, false, false, false, false, false, false, false, false, false, false] rfl rfl (take_ofW HT_.out HW_.out (by kernel_rfl)) (fun _ _ _ h => h) (Or.inl ⟨by rfl, ?_⟩) hHeld ?_ ?_
  rotate_left
  ·
   rintro w' ⟨s0, s1⟩
   go_simp
   with_reducible rfl
  rotate_left
  ·
   simp only [Act.put, List.setIfInBounds_toArray, List.set_cons_zero, List.set_cons_succ, i64_w, i32_w]
   rfl
  refine one_ (i := 1) (N := some 6) #[true, true, false, false, false, false, false, false, false, false, false, false, false, false] rfl rfl (one_of HT_.out (by kernel_rfl)) (by decide) (fun K hK => ?_)
  refine goes_ Try.func39 (by kernel_rfl) rfl #[.agg #[.slice A0_0 l0_0.length c0_0, .slice A0_1 l0_1.length c0_1]] (by rfl) rfl rfl (by (try simp only [List.map_toArray, List.map_cons, List.map_nil]); first | done | rfl | (simp only [List.length_drop, List.length_take]; rfl)) ?_
  with_reducible refine (selfstabref23_Fit.calls k _ _ l0_0 _ _ l0_1 false _ ?side1 ?side2 ?side3 ?side4 A3.out).mono ?_
  (case side1 => repeat (first | exact (Kd.C_below HR0_0.out HB.out) | (with_reducible refine Kd.C_alloc ?_ _) | (with_reducible refine Kd.C_drewN ?_ _) | (with_reducible refine Kd.C_drew ?_)))
  (case side2 => exact HC0_0.out)
  (case side3 => repeat (first | exact (Kd.C_below HR0_1.out HB.out) | (with_reducible refine Kd.C_alloc ?_ _) | (with_reducible refine Kd.C_drewN ?_ _) | (with_reducible refine Kd.C_drew ?_)))
  (case side4 => exact HC0_1.out)
  rintro e w24 ⟨rfl, hb⟩
  refine ⟨_, rfl, ?_⟩
  have n0_ := Aside0.mk (blk_below (g := gb626) (o := .cells #[.slice A0_0 l0_0.length c0_0, .slice A0_1 l0_1.length c0_1] 27 (0, 0)) (by (with_reducible repeat (first | refine blk_drewN ?_ _ | refine blk_drew ?_ | refine blk_alloc ?_ _)); exact BK626.out) hb)
  have n1_ := Aside0.mk (below_step (by repeat (first | (with_reducible first | exact HB.out | apply below_alloc | apply pw_below_drewN | apply below_drew1 | refine below_set ?_ GE626.out) | exact HB.out)) hb)
  clear BK626
  clear HB
  have BK626 := n0_
  have HB := n1_
  clear n0_ n1_
  (try clear hb)
  (try clear hb2)
  (try clear hk)
  (try clear hi)
  refine hK.out _ _ ⟨(blk_cell BK626.out 0).trans rfl, (blk_cell BK626.out 1).trans rfl⟩ (fun hHeld => ?_)
  clear hK K
  refine norm_ (a' := ?_) ?_ ?_
  rotate_left
  ·
   show Act.put _ (some 6) _ = _
   simp only [Act.put, List.setIfInBounds_toArray, List.set_cons_zero, List.set_cons_succ, i64_w, i32_w]
   rfl
  refine pure_ (i := 2) (N := some 7) (v := ?_) (a' := ?_) #[true, true, true, false, false, false, false, false, false, false, false, false, false, false] rfl rfl (any_of HT_.out (by kernel_rfl)) (fun _ _ _ h => h) (Or.inl ⟨by rfl, ?_⟩) ?_ ?_
  rotate_left
  ·
   intro w'
   go_simp
   with_reducible rfl
  rotate_left
  ·
   simp only [Act.put, List.setIfInBounds_toArray, List.set_cons_zero, List.set_cons_succ, i64_w, i32_w]
   rfl
  refine pure_ (i := 3) (N := some 8) (v := undef) (a' := ?_) #[true, true, true, true, false, false, false, false, false, false, false, false, false, false] rfl rfl (any_of HT_.out (by kernel_rfl)) (fun _ _ _ h => h) (Or.inr ⟨by rfl, rfl⟩) ?_ ?_
  rotate_left
  ·
   simp only [Act.put, List.setIfInBounds_toArray, List.set_cons_zero, List.set_cons_succ, i64_w, i32_w]
   rfl
  refine pure_ (i := 4) (N := some 9) (v := undef) (a' := ?_) #[true, true, true, true, true, false, false, false, false, false, false, false, false, false] rfl rfl (any_of HT_.out (by kernel_rfl)) (fun _ _ _ h => h) (Or.inr ⟨by rfl, rfl⟩) ?_ ?_
  rotate_left
  ·
   simp only [Act.put, List.setIfInBounds_toArray, List.set_cons_zero, List.set_cons_succ, i64_w, i32_w]
   rfl
  refine pure_ (i := 5) (N := some 10) (v := undef) (a' := ?_) #[true, true, true, true, true, true, false, false, false, false, false, false, false, false] rfl rfl (any_of HT_.out (by kernel_rfl)) (fun _ _ _ h => h) (Or.inr ⟨by rfl, rfl⟩) ?_ ?_
  rotate_left
  ·
   simp only [Act.put, List.setIfInBounds_toArray, List.set_cons_zero, List.set_cons_succ, i64_w, i32_w]
   rfl
  refine pure_ (i := 6) (N := some 11) (v := undef) (a' := ?_) #[true, true, true, true, true, true, true, false, false, false, false, false, false, false] rfl rfl (any_of HT_.out (by kernel_rfl)) (fun _ _ _ h => h) (Or.inr ⟨by rfl, rfl⟩) ?_ ?_
  rotate_left
  ·
   simp only [Act.put, List.setIfInBounds_toArray, List.set_cons_zero, List.set_cons_succ, i64_w, i32_w]
   rfl
  refine pure_ (i := 7) (N := some 12) (v := ?_) (a' := ?_) #[true, true, true, true, true, true, true, true, false, false, false, false, false, false] rfl rfl (any_of HT_.out (by kernel_rfl)) (fun _ _ _ h => h) (Or.inl ⟨by rfl, ?_⟩) ?_ ?_
  rotate_left
  ·
   intro w'
   go_simp
   with_reducible rfl
  rotate_left
  ·
   simp only [Act.put, List.setIfInBounds_toArray, List.set_cons_zero, List.set_cons_succ, i64_w, i32_w]
   rfl
  refine pure_ (i := 8) (N := some 13) (v := ?_) (a' := ?_) #[true, true, true, true, true, true, true, true, true, false, false, false, false, false] rfl rfl (any_of HT_.out (by kernel_rfl)) (fun _ _ _ h => h) (Or.inl ⟨by rfl, ?_⟩) ?_ ?_
  rotate_left
  ·
   intro w'
   go_simp
   with_reducible rfl
  rotate_left
  ·
   simp only [Act.put, List.setIfInBounds_toArray, List.set_cons_zero, List.set_cons_succ, i64_w, i32_w]
   rfl
  refine pure_ (i := 9) (N := some 14) (v := undef) (a' := ?_) #[true, true, true, true, true, true, true, true, true, true, false, false, false, false] rfl rfl (any_of HT_.out (by kernel_rfl)) (fun _ _ _ h => h) (Or.inr ⟨by rfl, rfl⟩) ?_ ?_
  rotate_left
  ·
   simp only [Act.put, List.setIfInBounds_toArray, List.set_cons_zero, List.set_cons_succ, i64_w, i32_w]
   rfl
  refine pure_ (i := 10) (N := some 15) (v := undef) (a' := ?_) #[true, true, true, true, true, true, true, true, true, true, true, false, false, false] rfl rfl (any_of HT_.out (by kernel_rfl)) (fun _ _ _ h => h) (Or.inr ⟨by rfl, rfl⟩) ?_ ?_
  rotate_left
  ·
   simp only [Act.put, List.setIfInBounds_toArray, List.set_cons_zero, List.set_cons_succ, i64_w, i32_w]
   rfl
  refine pure_ (i := 11) (N := some 16) (v := undef) (a' := ?_) #[true, true, true, true, true, true, true, true, true, true, true, true, false, false] rfl rfl (any_of HT_.out (by kernel_rfl)) (fun _ _ _ h => h) (Or.inr ⟨by rfl, rfl⟩) ?_ ?_
  rotate_left
  ·
   simp only [Act.put, List.setIfInBounds_toArray, List.set_cons_zero, List.set_cons_succ, i64_w, i32_w]
   rfl
  refine pure_ (i := 12) (N := some 17) (v := ?_) (a' := ?_) #[true, true, true, true, true, true, true, true, true, true, true, true, true, false] rfl rfl (any_of HT_.out (by kernel_rfl)) (fun _ _ _ h => h) (Or.inl ⟨by rfl, ?_⟩) ?_ ?_
  rotate_left
  ·
   intro w'
   go_simp
   with_reducible rfl
  rotate_left
  ·
   simp only [Act.put, List.setIfInBounds_toArray, List.set_cons_zero, List.set_cons_succ, i64_w, i32_w]
   rfl
  refine pure_ (i := 13) (N := some 4) (v := ?_) (a' := ?_) #[true, true, true, true, true, true, true, true, true, true, true, true, true, true] rfl rfl (any_of HT_.out (by kernel_rfl)) (fun _ _ _ h => h) (Or.inl ⟨by rfl, ?_⟩) ?_ ?_
  rotate_left
  ·
   intro w'
   go_simp
   with_reducible rfl
  rotate_left
  ·
   simp only [Act.put, List.setIfInBounds_toArray, List.set_cons_zero, List.set_cons_succ, i64_w, i32_w]
   rfl
  refine done_ (done_of HT_.out (by kernel_rfl)) ?_
  try go_wp2
  go_ret
  exact ⟨by first | rfl | (simp [errW_none, errW_some] <;> rfl) | (simp [*, errW_none, errW_some] <;> rfl), by repeat (first | (with_reducible first | exact HB.out | apply below_alloc | apply pw_below_drewN | apply below_drew1 | refine below_set ?_ GE626.out) | exact HB.out)⟩
end Go.Proofs.YthapikakneikbaaG
namespace Go.Proofs.YthapikakneikbaaG
open Go.RowKit Go.Proofs.YthapikakneikbaaW.PrintWords Go.Proofs.YthapikakneikbaaW.PrintLast Go.Proofs.YthapikakneikbaaW.PrintMore
attribute [local go_sem] max2_int min2_int max_two min_two max_three min_three max_four min_four   -- for this text's walks alone
set_option linter.unusedVariables false
set_option linter.unusedSimpArgs false
/-! ### selfstabref23_Claim: function 43 -/
def selfstabref23_Claim.f (k : Nat) (l0_0 : List Int) (l0_1 : List (List (S60))) : Option (Int × Bool × Bool × Int × Int) := (selfstabref23_Fit.f k l0_0 l0_1).bind fun t640 => (if t640 = true then ((selfstabref01_Eccentricity.f k l0_0 l0_1 0).bind fun t641 => (some (3, false, true, wrap64 (t641 + 1), (-1)))) else (some (0, false, false, 0, 0)))
theorem selfstabref23_Claim.mono : ∀ a0 a1 k, LeO (selfstabref23_Claim.f k a0 a1) (selfstabref23_Claim.f (k + 1) a0 a1) := by
 intro a0 a1 k
 unfold selfstabref23_Claim.f
 repeat' first
   | (with_reducible exact selfstabref01_Eccentricity.mono _ _ _ _)
   | (with_reducible exact selfstabref23_Fit.mono _ _ _)
   | (with_reducible exact LeO.refl _)
   | (with_reducible exact LeO.none _)
   | (with_reducible refine LeO.ite ?_ ?_)
   | (with_reducible refine LeO.bind ?_ (fun _ => ?_))
   | exact selfstabref01_Eccentricity.mono _ _ _ _
   | exact selfstabref23_Fit.mono _ _ _
   | exact LeO.none _
   | refine LeO.ite ?_ ?_
   | refine LeO.bind ?_ (fun _ => ?_)
set_option maxHeartbeats 8000000 in
set_option maxRecDepth 100000 in
theorem selfstabref23_Claim.calls (k : Nat) (A0_0 : Option Addr) (c0_0 : Nat) (l0_0 : List Int) (A0_1 : Option Addr) (c0_1 : Nat) (l0_1 : List (List (S60))) (r1 : Int) (r2 : Bool) (r3 : Bool) (r4 : Int) (r5 : Int) (w : World) (hr0_0 : Kd.C (Kd.int .i64) w A0_0 l0_0.length l0_0) (hc0_0 : l0_0.length ≤ c0_0) (hr0_1 : Kd.C (Kd.slice 60 k60) w A0_1 l0_1.length l0_1) (hc0_1 : l0_1.length ≤ c0_1) (h : selfstabref23_Claim.f k l0_0 l0_1 = some (r1, r2, r3, r4, r5)) :
  Calls Try.prog 43 #[.agg #[.slice A0_0 l0_0.length c0_0, .slice A0_1 l0_1.length c0_1]] w fun e w' => e = .returned (.agg #[.int .i64 r1, .bool r2, .bool r3, .int .i64 r4, .int .i64 r5]) ∧ Below w.heap.size w w' := by
 have hu27 := Try.underlying27
 have hu44 := Try.underlying44
 have HR0_0 := Aside0.mk hr0_0
 have HC0_0 := Aside0.mk hc0_0
 clear hr0_0 hc0_0
 have HR0_1 := Aside0.mk hr0_1
 have HC0_1 := Aside0.mk hc0_1
 clear hr0_1 hc0_1
 have HB := Aside0.mk (Below.refl w.heap.size w)
 have H : ((selfstabref23_Fit.f k l0_0 l0_1).bind fun t640 => (if t640 = true then ((selfstabref01_Eccentricity.f k l0_0 l0_1 0).bind fun t641 => (some (3, false, true, wrap64 (t641 + 1), (-1)))) else (some (0, false, false, 0, 0)))) = some (r1, r2, r3, r4, r5) := h
 clear h
 replace H := Option.bind_eq_some_iff.mp H
 obtain ⟨t640, A20, H⟩ := H
 replace H : (if t640 = true then ((selfstabref01_Eccentricity.f k l0_0 l0_1 0).bind fun t641 => (some (3, false, true, wrap64 (t641 + 1), (-1)))) else (some (0, false, false, 0, 0))) = some (r1, r2, r3, r4, r5) := H
 have A2 := Aside0.mk A20
 clear A20
 by_cases c3 : t640 = true
 ·
  subst c3
  have H1 : ((selfstabref01_Eccentricity.f k l0_0 l0_1 0).bind fun t641 => (some (3, false, true, wrap64 (t641 + 1), (-1)))) = some (r1, r2, r3, r4, r5) := by rw [if_pos rfl] at H; exact H
  clear H
  have H := H1
  clear H1
  replace H := Option.bind_eq_some_iff.mp H
  obtain ⟨t641, A40, H⟩ := H
  replace H : (some (3, false, true, wrap64 (t641 + 1), (-1))) = some (r1, r2, r3, r4, r5) := H
  have A4 := Aside0.mk A40
  clear A40
  simp only [Option.some.injEq, Prod.mk.injEq] at H
  obtain ⟨rfl, rfl, rfl, rfl, rfl⟩ := H
  go_enter Try.func43, Try.ntmps43
  go_wp2_with (first | ((with_reducible refine gate_dst (N := 1) rfl ?_); refine box_event ?hg (N := 1) ?hd (cs := #[.slice A0_0 l0_0.length c0_0, .slice A0_1 l0_1.length c0_1]) (t := 27) ?hr ?_; (case hd => rfl); (case hg => rfl); (case hr => first | (go_simp; done) | (go_simp; rfl)); intro gb638 hg w5 hbox hb; have n0_ := Aside0.mk (below_step (by repeat (first | (with_reducible first | exact HB.out | apply below_alloc | apply pw_below_drewN | apply below_drew1) | exact HB.out)) hb); have n1_ := Aside0.mk (hbox); have n2_ := Aside0.mk ((by rw [hg]; exact (below_size (by repeat (first | (with_reducible first | exact HB.out | apply below_alloc | apply pw_below_drewN | apply below_drew1) | exact HB.out))) : w.heap.size ≤ gb638)); have n3_ := Aside0.mk ((by rw [hg]; exact (below_size (by repeat (first | (with_reducible first | exact HB.out | apply below_alloc | apply pw_below_drewN | apply below_drew1) | exact HB.out))) : w.heap.size ≤ gb638)); clear HB; have HB := n0_; have BK638 := n1_; have GW638 := n2_; have GE638 := n3_; clear n0_ n1_ n2_ n3_; clear hb hbox hg) | ((with_reducible refine gate_dst (N := 2) rfl ?_); refine box_event ?hg (N := 2) ?hd (cs := #[.int .i64 0, .bool false, .bool false, .int .i64 0, .int .i64 0]) (t := 44) ?hr ?_; (case hd => rfl); (case hg => rfl); (case hr => first | (go_simp; done) | (go_simp; rfl)); intro gb639 hg w6 hbox hb; have n0_ := Aside0.mk (blk_below (g := gb638) (o := .cells #[.slice A0_0 l0_0.length c0_0, .slice A0_1 l0_1.length c0_1] 27 (0, 0)) (by (with_reducible repeat (first | refine blk_drewN ?_ _ | refine blk_drew ?_ | refine blk_alloc ?_ _)); exact BK638.out) hb); have n1_ := Aside0.mk (below_step (by repeat (first | (with_reducible first | exact HB.out | apply below_alloc | apply pw_below_drewN | apply below_drew1 | refine below_set ?_ GE638.out) | exact HB.out)) hb); have n2_ := Aside0.mk (hbox); have n3_ := Aside0.mk ((by rw [hg]; exact (below_size (by repeat (first | (with_reducible first | exact HB.out | apply below_alloc | apply pw_below_drewN | apply below_drew1 | refine below_set ?_ GE638.out) | exact HB.out))) : w.heap.size ≤ gb639)); have n4_ := Aside0.mk ((by rw [hg]; exact (below_size (by repeat (first | (with_reducible first | exact HB.out | apply below_alloc | apply pw_below_drewN | apply below_drew1 | refine below_set ?_ GE638.out) | exact HB.out))) : w.heap.size ≤ gb639)); have n5_ := Aside0.mk ((by rw [hg]; exact Nat.ne_of_lt (blk_lt (g := gb638) (o := .cells #[.slice A0_0 l0_0.length c0_0, .slice A0_1 l0_1.length c0_1] 27 (0, 0)) (by (with_reducible repeat (first | refine blk_drewN ?_ _ | refine blk_drew ?_ | refine blk_alloc ?_ _)); exact BK638.out)) : gb638 ≠ gb639)); have n6_ := Aside0.mk ((by rw [hg]; exact Nat.ne_of_gt (blk_lt (g := gb638) (o := .cells #[.slice A0_0 l0_0.length c0_0, .slice A0_1 l0_1.length c0_1] 27 (0, 0)) (by (with_reducible repeat (first | refine blk_drewN ?_ _ | refine blk_drew ?_ | refine blk_alloc ?_ _)); exact BK638.out)) : gb639 ≠ gb638)); clear BK638; clear HB; have BK638 := n0_; have HB := n1_; have BK639 := n2_; have GW639 := n3_; have GE639 := n4_; have NB638_639 := n5_; have NB639_638 := n6_; clear n0_ n1_ n2_ n3_ n4_ n5_ n6_; clear hb hbox hg; have hnb7 := NB638_639.out; have hnc7 := NB639_638.out; have hcz8_0 : w6.cell? ⟨gb638, 0, none⟩ = some (.slice A0_0 l0_0.length c0_0) := (blk_cell BK638.out 0).trans rfl; have hcz8_1 : w6.cell? ⟨gb638, 1, none⟩ = some (.slice A0_1 l0_1.length c0_1) := (blk_cell BK638.out 1).trans rfl; have hfz8_0 := blk_frozen BK638.out 0; have hfz8_1 := blk_frozen BK638.out 1) | ((with_reducible refine gate_callee (f := 39) rfl ?_); refine goesL_ (some 4) rfl rfl Try.func39 (by kernel_rfl) rfl #[.agg #[.slice A0_0 l0_0.length c0_0, .slice A0_1 l0_1.length c0_1]] rfl (by (try simp only [List.map_toArray, List.map_cons, List.map_nil]); first | done | rfl | (simp only [List.length_drop, List.length_take]; rfl)) ?_; (with_reducible refine (selfstabref23_Fit.calls k _ _ l0_0 _ _ l0_1 true _ ?side1 ?side2 ?side3 ?side4 A2.out).mono ?_); (case side1 => repeat (first | exact (Kd.C_below HR0_0.out HB.out) | (with_reducible refine Kd.C_alloc ?_ _) | (with_reducible refine Kd.C_drewN ?_ _) | (with_reducible refine Kd.C_drew ?_))); (case side2 => exact HC0_0.out); (case side3 => repeat (first | exact (Kd.C_below HR0_1.out HB.out) | (with_reducible refine Kd.C_alloc ?_ _) | (with_reducible refine Kd.C_drewN ?_ _) | (with_reducible refine Kd.C_drew ?_))); (case side4 => exact HC0_1.out); rintro e w9 ⟨rfl, hb⟩; refine ⟨_, rfl, ?_⟩; have n0_ := Aside0.mk (blk_below (g := gb638) (o := .cells #[.slice A0_0 l0_0.length c0_0, .slice A0_1 l0_1.length c0_1] 27 (0, 0)) (by (with_reducible repeat (first | refine blk_drewN ?_ _ | refine blk_drew ?_ | refine blk_alloc ?_ _)); exact BK638.out) hb); have n1_ := Aside0.mk (blk_below (g := gb639) (o := .cells #[.int .i64 0, .bool false, .bool false, .int .i64 0, .int .i64 0] 44 (0, 0)) (by (with_reducible repeat (first | refine blk_drewN ?_ _ | refine blk_drew ?_ | refine blk_alloc ?_ _)); exact BK639.out) hb); have n2_ := Aside0.mk (below_step (by repeat (first | (with_reducible first | exact HB.out | apply below_alloc | apply pw_below_drewN | apply below_drew1 | refine below_set ?_ GE638.out | refine below_set ?_ GE639.out) | exact HB.out)) hb); clear BK638; clear BK639; clear HB; have BK638 := n0_; have BK639 := n1_; have HB := n2_; clear n0_ n1_ n2_; (try clear hb); (try clear hb2); (try clear hk); (try clear hi); have hcz10_0 : w9.cell? ⟨gb638, 0, none⟩ = some (.slice A0_0 l0_0.length c0_0) := (blk_cell BK638.out 0).trans rfl; have hcz10_1 : w9.cell? ⟨gb638, 1, none⟩ = some (.slice A0_1 l0_1.length c0_1) := (blk_cell BK638.out 1).trans rfl; have hfz10_0 := blk_frozen BK638.out 0; have hfz10_1 := blk_frozen BK638.out 1) | ((with_reducible refine gate_callee (f := 95) rfl ?_); refine goesL_ (some 8) rfl rfl Try.func95 (by kernel_rfl) rfl #[.agg #[.slice A0_0 l0_0.length c0_0, .slice A0_1 l0_1.length c0_1], .int .i64 0] rfl (by (try simp only [List.map_toArray, List.map_cons, List.map_nil]); first | done | rfl | (simp only [List.length_drop, List.length_take]; rfl)) ?_; (with_reducible refine (selfstabref01_Eccentricity.calls k _ _ l0_0 _ _ l0_1 0 t641 _ ?side1 ?side2 ?side3 ?side4 A4.out).mono ?_); (case side1 => repeat (first | exact (Kd.C_below HR0_0.out HB.out) | (with_reducible refine Kd.C_alloc ?_ _) | (with_reducible refine Kd.C_drewN ?_ _) | (with_reducible refine Kd.C_drew ?_))); (case side2 => exact HC0_0.out); (case side3 => repeat (first | exact (Kd.C_below HR0_1.out HB.out) | (with_reducible refine Kd.C_alloc ?_ _) | (with_reducible refine Kd.C_drewN ?_ _) | (with_reducible refine Kd.C_drew ?_))); (case side4 => exact HC0_1.out); rintro e w11 ⟨rfl, hb⟩; refine ⟨_, rfl, ?_⟩; have n0_ := Aside0.mk (blk_below (g := gb638) (o := .cells #[.slice A0_0 l0_0.length c0_0, .slice A0_1 l0_1.length c0_1] 27 (0, 0)) (by (with_reducible repeat (first | refine blk_drewN ?_ _ | refine blk_drew ?_ | refine blk_alloc ?_ _)); exact BK638.out) hb); have n1_ := Aside0.mk (blk_below (g := gb639) (o := .cells #[.int .i64 0, .bool false, .bool false, .int .i64 0, .int .i64 0] 44 (0, 0)) (by (with_reducible repeat (first | refine blk_drewN ?_ _ | refine blk_drew ?_ | refine blk_alloc ?_ _)); exact BK639.out) hb); have n2_ := Aside0.mk (below_step (by repeat (first | (with_reducible first | exact HB.out | apply below_alloc | apply pw_below_drewN | apply below_drew1 | refine below_set ?_ GE638.out | refine below_set ?_ GE639.out) | exact HB.out)) hb); clear BK638; clear BK639; clear HB; have BK638 := n0_; have BK639 := n1_; have HB := n2_; clear n0_ n1_ n2_; (try clear hb); (try clear hb2); (try clear hk); (try clear hi); have hcz12_0 : w11.cell? ⟨gb639, 0, none⟩ = some (.int .i64 0) := (blk_cell BK639.out 0).trans rfl; have hcz12_1 : w11.cell? ⟨gb639, 1, none⟩ = some (.bool false) := (blk_cell BK639.out 1).trans rfl; have hcz12_2 : w11.cell? ⟨gb639, 2, none⟩ = some (.bool false) := (blk_cell BK639.out 2).trans rfl; have hcz12_3 : w11.cell? ⟨gb639, 3, none⟩ = some (.int .i64 0) := (blk_cell BK639.out 3).trans rfl; have hcz12_4 : w11.cell? ⟨gb639, 4, none⟩ = some (.int .i64 0) := (blk_cell BK639.out 4).trans rfl; have hfz12_0 := blk_frozen BK639.out 0; have hfz12_1 := blk_frozen BK639.out 1; have hfz12_2 := blk_frozen BK639.out 2; have hfz12_3 := blk_frozen BK639.out 3; have hfz12_4 := blk_frozen BK639.out 4))
  refine bodyPost_ret (results_cell_row rfl _ _ gb639 44 #[.int .i64 3, .bool false, .bool true, .int .i64 (wrap64 (t641 + 1)), .int .i64 (-1)] (0, 0) _ rfl (by (with_reducible repeat (first | refine blk_drewN ?_ _ | refine blk_drew ?_ | refine blk_alloc ?_ _)); refine blk_put (cs := #[.int .i64 3, .bool false, .bool true, .int .i64 (wrap64 (t641 + 1)), .int .i64 0]) ?_ 4 _ rfl; (with_reducible repeat (first | refine blk_drewN ?_ _ | refine blk_drew ?_ | refine blk_alloc ?_ _)); refine blk_put (cs := #[.int .i64 3, .bool false, .bool true, .int .i64 0, .int .i64 0]) ?_ 3 _ rfl; (with_reducible repeat (first | refine blk_drewN ?_ _ | refine blk_drew ?_ | refine blk_alloc ?_ _)); refine blk_put (cs := #[.int .i64 3, .bool false, .bool false, .int .i64 0, .int .i64 0]) ?_ 2 _ rfl; (with_reducible repeat (first | refine blk_drewN ?_ _ | refine blk_drew ?_ | refine blk_alloc ?_ _)); refine blk_put (cs := #[.int .i64 3, .bool false, .bool false, .int .i64 0, .int .i64 0]) ?_ 1 _ rfl; (with_reducible repeat (first | refine blk_drewN ?_ _ | refine blk_drew ?_ | refine blk_alloc ?_ _)); refine blk_put (cs := #[.int .i64 0, .bool false, .bool false, .int .i64 0, .int .i64 0]) ?_ 0 _ rfl; (with_reducible repeat (first | refine blk_drewN ?_ _ | refine blk_drew ?_ | refine blk_alloc ?_ _)); exact BK639.out) Try.underlying44 rfl (by kernel_rfl)) rfl ?_
  exact ⟨by first | rfl | (simp [errW_none, errW_some] <;> rfl) | (simp [*, errW_none, errW_some] <;> rfl), by repeat (first | (with_reducible first | exact HB.out | apply below_alloc | apply pw_below_drewN | apply below_drew1 | refine below_set ?_ GE638.out | refine below_set ?_ GE639.out) | exact HB.out)⟩
 ·
  replace c3 := Bool.eq_false_iff.mpr c3
  subst c3
  have H1 : (some (0, false, false, 0, 0)) = some (r1, r2, r3, r4, r5) := by rw [if_neg (show ¬ (false = true) by decide)] at H; exact H
  clear H
  have H := H1
  clear H1
  simp only [Option.some.injEq, Prod.mk.injEq] at H
  obtain ⟨rfl, rfl, rfl, rfl, rfl⟩ := H
  go_enter Try.func43, Try.ntmps43
  go_wp2_with (first | ((with_reducible refine gate_dst (N := 1) rfl ?_); refine box_event ?hg (N := 1) ?hd (cs := #[.slice A0_0 l0_0.length c0_0, .slice A0_1 l0_1.length c0_1]) (t := 27) ?hr ?_; (case hd => rfl); (case hg => rfl); (case hr => first | (go_simp; done) | (go_simp; rfl)); intro gb638 hg w13 hbox hb; have n0_ := Aside0.mk (below_step (by repeat (first | (with_reducible first | exact HB.out | apply below_alloc | apply pw_below_drewN | apply below_drew1) | exact HB.out)) hb); have n1_ := Aside0.mk (hbox); have n2_ := Aside0.mk ((by rw [hg]; exact (below_size (by repeat (first | (with_reducible first | exact HB.out | apply below_alloc | apply pw_below_drewN | apply below_drew1) | exact HB.out))) : w.heap.size ≤ gb638)); have n3_ := Aside0.mk ((by rw [hg]; exact (below_size (by repeat (first | (with_reducible first | exact HB.out | apply below_alloc | apply pw_below_drewN | apply below_drew1) | exact HB.out))) : w.heap.size ≤ gb638)); clear HB; have HB := n0_; have BK638 := n1_; have GW638 := n2_; have GE638 := n3_; clear n0_ n1_ n2_ n3_; clear hb hbox hg) | ((with_reducible refine gate_dst (N := 2) rfl ?_); refine box_event ?hg (N := 2) ?hd (cs := #[.int .i64 0, .bool false, .bool false, .int .i64 0, .int .i64 0]) (t := 44) ?hr ?_; (case hd => rfl); (case hg => rfl); (case hr => first | (go_simp; done) | (go_simp; rfl)); intro gb639 hg w14 hbox hb; have n0_ := Aside0.mk (blk_below (g := gb638) (o := .cells #[.slice A0_0 l0_0.length c0_0, .slice A0_1 l0_1.length c0_1] 27 (0, 0)) (by (with_reducible repeat (first | refine blk_drewN ?_ _ | refine blk_drew ?_ | refine blk_alloc ?_ _)); exact BK638.out) hb); have n1_ := Aside0.mk (below_step (by repeat (first | (with_reducible first | exact HB.out | apply below_alloc | apply pw_below_drewN | apply below_drew1 | refine below_set ?_ GE638.out) | exact HB.out)) hb); have n2_ := Aside0.mk (hbox); have n3_ := Aside0.mk ((by rw [hg]; exact (below_size (by repeat (first | (with_reducible first | exact HB.out | apply below_alloc | apply pw_below_drewN | apply below_drew1 | refine below_set ?_ GE638.out) | exact HB.out))) : w.heap.size ≤ gb639)); have n4_ := Aside0.mk ((by rw [hg]; exact (below_size (by repeat (first | (with_reducible first | exact HB.out | apply below_alloc | apply pw_below_drewN | apply below_drew1 | refine below_set ?_ GE638.out) | exact HB.out))) : w.heap.size ≤ gb639)); have n5_ := Aside0.mk ((by rw [hg]; exact Nat.ne_of_lt (blk_lt (g := gb638) (o := .cells #[.slice A0_0 l0_0.length c0_0, .slice A0_1 l0_1.length c0_1] 27 (0, 0)) (by (with_reducible repeat (first | refine blk_drewN ?_ _ | refine blk_drew ?_ | refine blk_alloc ?_ _)); exact BK638.out)) : gb638 ≠ gb639)); have n6_ := Aside0.mk ((by rw [hg]; exact Nat.ne_of_gt (blk_lt (g := gb638) (o := .cells #[.slice A0_0 l0_0.length c0_0, .slice A0_1 l0_1.length c0_1] 27 (0, 0)) (by (with_reducible repeat (first | refine blk_drewN ?_ _ | refine blk_drew ?_ | refine blk_alloc ?_ _)); exact BK638.out)) : gb639 ≠ gb638)); clear BK638; clear HB; have BK638 := n0_; have HB := n1_; have BK639 := n2_; have GW639 := n3_; have GE639 := n4_; have NB638_639 := n5_; have NB639_638 := n6_; clear n0_ n1_ n2_ n3_ n4_ n5_ n6_; clear hb hbox hg; have hnb15 := NB638_639.out; have hnc15 := NB639_638.out; have hcz16_0 : w14.cell? ⟨gb638, 0, none⟩ = some (.slice A0_0 l0_0.length c0_0) := (blk_cell BK638.out 0).trans rfl; have hcz16_1 : w14.cell? ⟨gb638, 1, none⟩ = some (.slice A0_1 l0_1.length c0_1) := (blk_cell BK638.out 1).trans rfl; have hfz16_0 := blk_frozen BK638.out 0; have hfz16_1 := blk_frozen BK638.out 1) | ((with_reducible refine gate_callee (f := 39) rfl ?_); refine goesL_ (some 4) rfl rfl Try.func39 (by kernel_rfl) rfl #[.agg #[.slice A0_0 l0_0.length c0_0, .slice A0_1 l0_1.length c0_1]] rfl (by (try simp only [List.map_toArray, List.map_cons, List.map_nil]); first | done | rfl | (simp only [List.length_drop, List.length_take]; rfl)) ?_; (with_reducible refine (selfstabref23_Fit.calls k _ _ l0_0 _ _ l0_1 false _ ?side1 ?side2 ?side3 ?side4 A2.out).mono ?_); (case side1 => repeat (first | exact (Kd.C_below HR0_0.out HB.out) | (with_reducible refine Kd.C_alloc ?_ _) | (with_reducible refine Kd.C_drewN ?_ _) | (with_reducible refine Kd.C_drew ?_))); (case side2 => exact HC0_0.out); (case side3 => repeat (first | exact (Kd.C_below HR0_1.out HB.out) | (with_reducible refine Kd.C_alloc ?_ _) | (with_reducible refine Kd.C_drewN ?_ _) | (with_reducible refine Kd.C_drew ?_))); (case side4 => exact HC0_1.out); rintro e w17 ⟨rfl, hb⟩; refine ⟨_, rfl, ?_⟩; have n0_ := Aside0.mk (blk_below (g := gb638) (o := .cells #[.slice A0_0 l0_0.length c0_0, .slice A0_1 l0_1.length c0_1] 27 (0, 0)) (by (with_reducible repeat (first | refine blk_drewN ?_ _ | refine blk_drew ?_ | refine blk_alloc ?_ _)); exact BK638.out) hb); have n1_ := Aside0.mk (blk_below (g := gb639) (o := .cells #[.int .i64 0, .bool false, .bool false, .int .i64 0, .int .i64 0] 44 (0, 0)) (by (with_reducible repeat (first | refine blk_drewN ?_ _ | refine blk_drew ?_ | refine blk_alloc ?_ _)); exact BK639.out) hb); have n2_ := Aside0.mk (below_step (by repeat (first | (with_reducible first | exact HB.out | apply below_alloc | apply pw_below_drewN | apply below_drew1 | refine below_set ?_ GE638.out | refine below_set ?_ GE639.out) | exact HB.out)) hb); clear BK638; clear BK639; clear HB; have BK638 := n0_; have BK639 := n1_; have HB := n2_; clear n0_ n1_ n2_; (try clear hb); (try clear hb2); (try clear hk); (try clear hi); have hcz18_0 : w17.cell? ⟨gb639, 0, none⟩ = some (.int .i64 0) := (blk_cell BK639.out 0).trans rfl; have hcz18_1 : w17.cell? ⟨gb639, 1, none⟩ = some (.bool false) := (blk_cell BK639.out 1).trans rfl; have hcz18_2 : w17.cell? ⟨gb639, 2, none⟩ = some (.bool false) := (blk_cell BK639.out 2).trans rfl; have hcz18_3 : w17.cell? ⟨gb639, 3, none⟩ = some (.int .i64 0) := (blk_cell BK639.out 3).trans rfl; have hcz18_4 : w17.cell? ⟨gb639, 4, none⟩ = some (.int .i64 0) := (blk_cell BK639.out 4).trans rfl; have hfz18_0 := blk_frozen BK639.out 0; have hfz18_1 := blk_frozen BK639.out 1; have hfz18_2 := blk_frozen BK639.out 2; have hfz18_3 := blk_frozen BK639.out 3; have hfz18_4 := blk_frozen BK639.out 4))
  refine bodyPost_ret (results_cell_row rfl _ _ gb639 44 #[.int .i64 0, .bool false, .bool false, .int .i64 0, .int .i64 0] (0, 0) _ rfl (by (with_reducible repeat (first | refine blk_drewN ?_ _ | refine blk_drew ?_ | refine blk_alloc ?_ _)); refine blk_put (cs := #[.int .i64 0, .bool false, .bool false, .int .i64 0, .int .i64 0]) ?_ 4 _ rfl; (with_reducible repeat (first | refine blk_drewN ?_ _ | refine blk_drew ?_ | refine blk_alloc ?_ _)); refine blk_put (cs := #[.int .i64 0, .bool false, .bool false, .int .i64 0, .int .i64 0]) ?_ 3 _ rfl; (with_reducible repeat (first | refine blk_drewN ?_ _ | refine blk_drew ?_ | refine blk_alloc ?_ _)); refine blk_put (cs := #[.int .i64 0, .bool false, .bool false, .int .i64 0, .int .i64 0]) ?_ 2 _ rfl; (with_reducible repeat (first | refine blk_drewN ?_ _ | refine blk_drew ?_ | refine blk_alloc ?_ _)); refine blk_put (cs := #[.int .i64 0, .bool false, .bool false, .int .i64 0, .int .i64 0]) ?_ 1 _ rfl; (with_reducible repeat (first | refine blk_drewN ?_ _ | refine blk_drew ?_ | refine blk_alloc ?_ _)); refine blk_put (cs := #[.int .i64 0, .bool false, .bool false, .int .i64 0, .int .i64 0]) ?_ 0 _ rfl; (with_reducible repeat (first | refine blk_drewN ?_ _ | refine blk_drew ?_ | refine blk_alloc ?_ _)); exact BK639.out) Try.underlying44 rfl (by kernel_rfl)) rfl ?_
  exact ⟨by first | rfl | (simp [errW_none, errW_some] <;> rfl) | (simp [*, errW_none, errW_some] <;> rfl), by repeat (first | (with_reducible first | exact HB.out | apply below_alloc | apply pw_below_drewN | apply below_drew1 | refine below_set ?_ GE638.out | refine below_set ?_ GE639.out) | exact HB.out)⟩
end Go.Proofs.YthapikakneikbaaG
namespace Go.Proofs.YthapikakneikbaaG
open Go.RowKit Go.Proofs.YthapikakneikbaaW.PrintWords Go.Proofs.YthapikakneikbaaW.PrintLast Go.Proofs.YthapikakneikbaaW.PrintMore
attribute [local go_sem] max2_int min2_int max_two min_two max_three min_three max_four min_four   -- for this text's walks alone
set_option linter.unusedVariables false
set_option linter.unusedSimpArgs false
/-! ### selfstabref23_Named: function 97 -/
def selfstabref23_Named.l0 : Nat → List (List Int) → Int → List Int → Int → List Int → List (List (S60)) → Option (List Int)
 | 0, _, _, _, _, _, _ => none
 | k + 1, x1, x2, x7, x8, x643000, x643001 => if x8 < (x1.length : Int) then (if 0 ≤ x8 then (if 0 ≤ x2 then (if x2 < ((rd_L3 x1 x8).length : Int) then (if (rd (rd_L3 x1 x8) x2) ≥ 0 then (if x8 < (x643001.length : Int) then (if 0 ≤ (rd (rd_L3 x1 x8) x2) then (if (rd (rd_L3 x1 x8) x2) < ((rd_L2 x643001 x8).length : Int) then (if x7.length < 17592186044416 then (selfstabref23_Named.l0 k x1 x2 (x7 ++ [(rd_T60 (rd_L2 x643001 x8) (rd (rd_L3 x1 x8) x2)).f0]) (wrap64 (x8 + 1)) x643000 x643001) else (none)) else (none)) else (none)) else (none)) else (if x7.length < 17592186044416 then (selfstabref23_Named.l0 k x1 x2 (x7 ++ [(-1)]) (wrap64 (x8 + 1)) x643000 x643001) else (none))) else (none)) else (none)) else (none)) else (some x7)
def selfstabref23_Named.f (k : Nat) (l0_0 : List Int) (l0_1 : List (List (S60))) (l1 : List (List Int)) (a2 : Int) : Option (List Int) := selfstabref23_Named.l0 k l1 a2 ([] : List Int) 0 l0_0 l0_1
theorem selfstabref23_Named.mono_l : ∀ k, (∀ y0 y1 y2 y3 y4 y5, LeO (selfstabref23_Named.l0 k y0 y1 y2 y3 y4 y5) (selfstabref23_Named.l0 (k + 1) y0 y1 y2 y3 y4 y5))
 | 0 => fun _ _ _ _ _ _ r h => by simp [selfstabref23_Named.l0] at h
 | k + 1 => by
  have ih0 := selfstabref23_Named.mono_l k
  ·
   intro y0 y1 y2 y3 y4 y5
   unfold selfstabref23_Named.l0
   repeat' first
   | (with_reducible exact ih0 _ _ _ _ _ _)
   | (with_reducible exact LeO.refl _)
   | (with_reducible exact LeO.none _)
   | (with_reducible refine LeO.ite ?_ ?_)
   | (with_reducible refine LeO.bind ?_ (fun _ => ?_))
   | exact ih0 _ _ _ _ _ _
   | exact LeO.none _
   | refine LeO.ite ?_ ?_
   | refine LeO.bind ?_ (fun _ => ?_)
theorem selfstabref23_Named.mono : ∀ a0 a1 a2 a3 k, LeO (selfstabref23_Named.f k a0 a1 a2 a3) (selfstabref23_Named.f (k + 1) a0 a1 a2 a3) := by
 intro a0 a1 a2 a3 k
 have ih0 := selfstabref23_Named.mono_l k
 unfold selfstabref23_Named.f
 repeat' first
   | (with_reducible exact ih0 _ _ _ _ _ _)
   | (with_reducible exact LeO.refl _)
   | (with_reducible exact LeO.none _)
   | (with_reducible refine LeO.ite ?_ ?_)
   | (with_reducible refine LeO.bind ?_ (fun _ => ?_))
   | exact ih0 _ _ _ _ _ _
   | exact LeO.none _
   | refine LeO.ite ?_ ?_
   | refine LeO.bind ?_ (fun _ => ?_)
set_option maxHeartbeats 8000000 in
set_option maxRecDepth 100000 in
theorem selfstabref23_Named.calls (k : Nat) (A0_0 : Option Addr) (c0_0 : Nat) (l0_0 : List Int) (A0_1 : Option Addr) (c0_1 : Nat) (l0_1 : List (List (S60))) (A1 : Option Addr) (c1 : Nat) (l1 : List (List Int)) (a2 : Int) (r : List Int) (w : World) (hr0_0 : Kd.C (Kd.int .i64) w A0_0 l0_0.length l0_0) (hc0_0 : l0_0.length ≤ c0_0) (hr0_1 : Kd.C (Kd.slice 60 k60) w A0_1 l0_1.length l0_1) (hc0_1 : l0_1.length ≤ c0_1) (hr1 : Kd.C (Kd.slice 3 (Kd.int .i64)) w A1 l1.length l1) (hc1 : l1.length ≤ c1) (h : selfstabref23_Named.f k l0_0 l0_1 l1 a2 = some r) :
  Calls Try.prog 97 #[.agg #[.slice A0_0 l0_0.length c0_0, .slice A0_1 l0_1.length c0_1], .slice A1 l1.length c1, .int .i64 a2] w fun e w' => ∃ v0_ : Value, e = .returned (v0_) ∧ Kd.R (Kd.int .i64) 3 w' w.heap.size (fun _ => True) v0_ r ∧ Below w.heap.size w w' := by
 have hu27 := Try.underlying27
 have HR0_0 := Aside0.mk hr0_0
 have HC0_0 := Aside0.mk hc0_0
 clear hr0_0 hc0_0
 have HR0_1 := Aside0.mk hr0_1
 have HC0_1 := Aside0.mk hc0_1
 clear hr0_1 hc0_1
 have HR1 := Aside0.mk hr1
 have HC1 := Aside0.mk hc1
 clear hr1 hc1
 have HB := Aside0.mk (Below.refl w.heap.size w)
 have H : (selfstabref23_Named.l0 k l1 a2 ([] : List Int) 0 l0_0 l0_1) = some r := h
 clear h
 have H' := Aside0.mk H
 clear H
 go_enter Try.func97, Try.ntmps97
 go_wp2_with (first | ((with_reducible refine gate_dst (N := 3) rfl ?_); refine box_event ?hg (N := 3) ?hd (cs := #[.slice A0_0 l0_0.length c0_0, .slice A0_1 l0_1.length c0_1]) (t := 27) ?hr ?_; (case hd => rfl); (case hg => rfl); (case hr => first | (go_simp; done) | (go_simp; rfl)); intro gb642 hg w4 hbox hb; have n0_ := Aside0.mk (below_step (by repeat (first | (with_reducible first | exact HB.out | apply below_alloc | apply pw_below_drewN | apply below_drew1) | exact HB.out)) hb); have n1_ := Aside0.mk (hbox); have n2_ := Aside0.mk ((by rw [hg]; exact (below_size (by repeat (first | (with_reducible first | exact HB.out | apply below_alloc | apply pw_below_drewN | apply below_drew1) | exact HB.out))) : w.heap.size ≤ gb642)); have n3_ := Aside0.mk ((by rw [hg]; exact (below_size (by repeat (first | (with_reducible first | exact HB.out | apply below_alloc | apply pw_below_drewN | apply below_drew1) | exact HB.out))) : w.heap.size ≤ gb642)); clear HB; have HB := n0_; have BK642 := n1_; have GW642 := n2_; have GE642 := n3_; clear n0_ n1_ n2_ n3_; clear hb hbox hg))
 repeat (go_quiet (first | ((with_reducible refine gate_dst (N := 3) rfl ?_); refine box_event ?hg (N := 3) ?hd (cs := #[.slice A0_0 l0_0.length c0_0, .slice A0_1 l0_1.length c0_1]) (t := 27) ?hr ?_; (case hd => rfl); (case hg => rfl); (case hr => first | (go_simp; done) | (go_simp; rfl)); intro gb642 hg w4 hbox hb; have n0_ := Aside0.mk (below_step (by repeat (first | (with_reducible first | exact HB.out | apply below_alloc | apply pw_below_drewN | apply below_drew1) | exact HB.out)) hb); have n1_ := Aside0.mk (hbox); have n2_ := Aside0.mk ((by rw [hg]; exact (below_size (by repeat (first | (with_reducible first | exact HB.out | apply below_alloc | apply pw_below_drewN | apply below_drew1) | exact HB.out))) : w.heap.size ≤ gb642)); have n3_ := Aside0.mk ((by rw [hg]; exact (below_size (by repeat (first | (with_reducible first | exact HB.out | apply below_alloc | apply pw_below_drewN | apply below_drew1) | exact HB.out))) : w.heap.size ≤ gb642)); clear HB; have HB := n0_; have BK642 := n1_; have GW642 := n2_; have GE642 := n3_; clear n0_ n1_ n2_ n3_; clear hb hbox hg)); try go_wp2_with (first | ((with_reducible refine gate_dst (N := 3) rfl ?_); refine box_event ?hg (N := 3) ?hd (cs := #[.slice A0_0 l0_0.length c0_0, .slice A0_1 l0_1.length c0_1]) (t := 27) ?hr ?_; (case hd => rfl); (case hg => rfl); (case hr => first | (go_simp; done) | (go_simp; rfl)); intro gb642 hg w4 hbox hb; have n0_ := Aside0.mk (below_step (by repeat (first | (with_reducible first | exact HB.out | apply below_alloc | apply pw_below_drewN | apply below_drew1) | exact HB.out)) hb); have n1_ := Aside0.mk (hbox); have n2_ := Aside0.mk ((by rw [hg]; exact (below_size (by repeat (first | (with_reducible first | exact HB.out | apply below_alloc | apply pw_below_drewN | apply below_drew1) | exact HB.out))) : w.heap.size ≤ gb642)); have n3_ := Aside0.mk ((by rw [hg]; exact (below_size (by repeat (first | (with_reducible first | exact HB.out | apply below_alloc | apply pw_below_drewN | apply below_drew1) | exact HB.out))) : w.heap.size ≤ gb642)); clear HB; have HB := n0_; have BK642 := n1_; have GW642 := n2_; have GE642 := n3_; clear n0_ n1_ n2_ n3_; clear hb hbox hg)))
 go_loopg [7, 8] k (fun kq v7 v8 w' => ∃ (x7_1 : List Int) (x8_1 : Int), v8 = .int .i64 x8_1 ∧ Aside0 (selfstabref23_Named.l0 kq l1 a2 x7_1 x8_1 l0_0 l0_1 = some r) ∧ Aside0 (kq ≤ k) ∧ Aside0 (Kd.R (Kd.int .i64) 3 w' w.heap.size (fun _ => True) v7 x7_1) ∧ Aside0 (w'.heap[gb642]? = some (.cells #[(.slice A0_0 l0_0.length c0_0), (.slice A0_1 l0_1.length c0_1)] 27 (0, 0))) ∧ Aside0 (Below w.heap.size w w'))
 case atStart => exact ⟨(([] : List Int)), (0), (by first | rfl | (simp; done) | (simp [*]; done)), H', ⟨Nat.le_refl _⟩, ⟨by first | exact Kd.R_nil _ _ _ _ _ | exact Kd.N_nil _ _ _ _ _ | exact Kd.V_nil _ _ _ _ _ | exact Kd.Q_nil _ _ _ _ _ | exact Kd.S_nil _ _ _ _ _⟩, ⟨by (with_reducible repeat (first | refine blk_drewN ?_ _ | refine blk_drew ?_ | refine blk_alloc ?_ _)); exact BK642.out⟩, ⟨by repeat (first | (with_reducible first | exact HB.out | apply below_alloc | apply pw_below_drewN | apply below_drew1 | refine below_set ?_ GE642.out) | exact HB.out)⟩⟩
 case round =>
  clear H'
  try clear c1
  try clear p2
  obtain ⟨x7_1, x8_1, rfl, HA, HK1, HO_7, BK642, HB⟩ := hrel
  cases gk with
  | zero => exact absurd HA.out (by simp [selfstabref23_Named.l0])
  | succ k1 =>
   have H := HA.out
   clear HA
   simp only [selfstabref23_Named.l0] at H
   by_cases c5 : x8_1 < (l1.length : Int)
   ·
    rw [if_pos c5] at H
    have c5b0 : decide (x8_1 < (l1.length : Int)) = true := decide_eq_true c5
    clear c5
    by_cases c6 : 0 ≤ x8_1
    ·
     rw [if_pos c6] at H
     have c6b0 : decide (0 ≤ x8_1) = true := decide_eq_true c6
     clear c6
     by_cases c7 : 0 ≤ a2
     ·
      rw [if_pos c7] at H
      have c7b0 : decide (0 ≤ a2) = true := decide_eq_true c7
      clear c7
      by_cases c8 : a2 < ((rd_L3 l1 x8_1).length : Int)
      ·
       rw [if_pos c8] at H
       have c8b0 : decide (a2 < ((rd_L3 l1 x8_1).length : Int)) = true := decide_eq_true c8
       clear c8
       by_cases c9 : (rd (rd_L3 l1 x8_1) a2) ≥ 0
       ·
        rw [if_pos c9] at H
        have c9b0 : decide (0 ≤ (rd (rd_L3 l1 x8_1) a2)) = true := decide_eq_true c9
        clear c9
        by_cases c10 : x8_1 < (l0_1.length : Int)
        ·
         rw [if_pos c10] at H
         have c10b0 : decide (x8_1 < (l0_1.length : Int)) = true := decide_eq_true c10
         clear c10
         by_cases c11 : 0 ≤ (rd (rd_L3 l1 x8_1) a2)
         ·
          rw [if_pos c11] at H
          have c11b0 : decide (0 ≤ (rd (rd_L3 l1 x8_1) a2)) = true := decide_eq_true c11
          clear c11
          by_cases c12 : (rd (rd_L3 l1 x8_1) a2) < ((rd_L2 l0_1 x8_1).length : Int)
          ·
           rw [if_pos c12] at H
           have c12b0 : decide ((rd (rd_L3 l1 x8_1) a2) < ((rd_L2 l0_1 x8_1).length : Int)) = true := decide_eq_true c12
           clear c12
           by_cases c13 : x7_1.length < 17592186044416
           ·
            rw [if_pos c13] at H
            have LMc13 := Aside0.mk c13
            clear c13
            obtain ⟨y649, hy649⟩ : ∃ y_ : List Int, y_ = (x7_1 ++ [(rd_T60 (rd_L2 l0_1 x8_1) (rd (rd_L3 l1 x8_1) a2)).f0]) := ⟨_, rfl⟩
            replace H : (selfstabref23_Named.l0 k1 l1 a2 y649 (wrap64 (x8_1 + 1)) l0_0 l0_1) = some r := by first | (rw [hy649]; with_reducible exact H) | (have H2_ := (Option.bind_some _ _).symm.trans H; rw [hy649]; with_reducible exact H2_) | (have H2_ := (Option.bind_some _ _).symm.trans H; with_reducible exact H2_) | with_reducible exact H | (rw [hy649]; exact H) | exact H
            have Ny649 := Aside0.mk hy649
            clear hy649
            have H' := Aside0.mk H
            clear H
            have p643 : 0 ≤ (x8_1 : Int) := of_decide_eq_true (by first | (with_reducible assumption) | assumption)
            have q643 : x8_1 < (l1.length : Int) := of_decide_eq_true (by first | (with_reducible assumption) | assumption)
            obtain ⟨ad643, A643_0, c643_0, e643, hx643_0, hl643_0, hi643_0⟩ := at_L3 HR1.out x8_1 p643 q643
            cases e643
            replace hx643_0 := (HB.out.cell (World.block_lt_of_cell? w _ hx643_0)).trans hx643_0
            have HR643_0 := Aside0.mk hi643_0
            have HC643_0 := Aside0.mk hl643_0
            clear hi643_0 hl643_0
            replace p643 := eq_true p643
            replace q643 := eq_true q643
            have p644 : 0 ≤ (a2 : Int) := of_decide_eq_true (by first | (with_reducible assumption) | assumption)
            have q644 : a2 < ((rd_L3 l1 x8_1).length : Int) := of_decide_eq_true (by first | (with_reducible assumption) | assumption)
            obtain ⟨ad644, e644, hx644_0⟩ := Kd.at_int HR643_0.out a2 p644 q644
            cases e644
            replace hx644_0 := (HB.out.cell (World.block_lt_of_cell? w _ hx644_0)).trans hx644_0
            replace p644 := eq_true p644
            replace q644 := eq_true q644
            have hcz14_0 : wr.cell? ⟨gb642, 0, none⟩ = some (.slice A0_0 l0_0.length c0_0) := (blk_cell BK642.out 0).trans rfl
            have hcz14_1 : wr.cell? ⟨gb642, 1, none⟩ = some (.slice A0_1 l0_1.length c0_1) := (blk_cell BK642.out 1).trans rfl
            have hfz14_0 := blk_frozen BK642.out 0
            have hfz14_1 := blk_frozen BK642.out 1
            have p645 : 0 ≤ (x8_1 : Int) := of_decide_eq_true (by first | (with_reducible assumption) | assumption)
            have q645 : x8_1 < (l0_1.length : Int) := of_decide_eq_true (by first | (with_reducible assumption) | assumption)
            obtain ⟨ad645, A645_0, c645_0, e645, hx645_0, hl645_0, hi645_0⟩ := at_L2 HR0_1.out x8_1 p645 q645
            cases e645
            replace hx645_0 := (HB.out.cell (World.block_lt_of_cell? w _ hx645_0)).trans hx645_0
            have HR645_0 := Aside0.mk hi645_0
            have HC645_0 := Aside0.mk hl645_0
            clear hi645_0 hl645_0
            replace p645 := eq_true p645
            replace q645 := eq_true q645
            have p646 : 0 ≤ (x8_1 : Int) := of_decide_eq_true (by first | (with_reducible assumption) | assumption)
            have q646 : x8_1 < (l1.length : Int) := of_decide_eq_true (by first | (with_reducible assumption) | assumption)
            obtain ⟨ad646, A646_0, c646_0, e646, hx646_0, hl646_0, hi646_0⟩ := at_L3 HR1.out x8_1 p646 q646
            obtain rfl : ad643 = ad646 := (by injection e646)
            replace hx646_0 := (HB.out.cell (World.block_lt_of_cell? w _ hx646_0)).trans hx646_0
            have HR646_0 := Aside0.mk hi646_0
            have HC646_0 := Aside0.mk hl646_0
            clear hi646_0 hl646_0
            replace p646 := eq_true p646
            replace q646 := eq_true q646
            have ea_ := Option.some.inj (hx643_0.symm.trans hx646_0)
            injection ea_ with ea_ en_ ec_
            subst ea_
            subst ec_
            clear en_
            have p647 : 0 ≤ (a2 : Int) := of_decide_eq_true (by first | (with_reducible assumption) | assumption)
            have q647 : a2 < ((rd_L3 l1 x8_1).length : Int) := of_decide_eq_true (by first | (with_reducible assumption) | assumption)
            obtain ⟨ad647, e647, hx647_0⟩ := Kd.at_int HR646_0.out a2 p647 q647
            cases e647
            replace hx647_0 := (HB.out.cell (World.block_lt_of_cell? w _ hx647_0)).trans hx647_0
            replace p647 := eq_true p647
            replace q647 := eq_true q647
            have p648 : 0 ≤ ((rd (rd_L3 l1 x8_1) a2) : Int) := of_decide_eq_true (by first | (with_reducible assumption) | assumption)
            have q648 : (rd (rd_L3 l1 x8_1) a2) < ((rd_L2 l0_1 x8_1).length : Int) := of_decide_eq_true (by first | (with_reducible assumption) | assumption)
            obtain ⟨ad648, e648, hx648_0, hx648_1⟩ := at_T60 HR645_0.out (rd (rd_L3 l1 x8_1) a2) p648 q648
            cases e648
            replace hx648_0 := (HB.out.cell (World.block_lt_of_cell? w _ hx648_0)).trans hx648_0
            replace hx648_1 := (HB.out.cell (World.block_lt_of_cell? w _ hx648_1)).trans hx648_1
            replace p648 := eq_true p648
            replace q648 := eq_true q648
            go_wp2_with (first | ((with_reducible refine gate_builtin (b := .append) (xs := #[.tmp 39, .tmp 41]) rfl ?_); at_builtin; refine Kd.R_append (Kd.int .i64) (w0 := w) w.heap.size rfl (.tmp 39) (.tmp 41) 22 3 (.int .i64 0) 8 rfl Try.underlying22 info3 rfl (by decide) (by omega) u7 x7_1 ((rd_T60 (rd_L2 l0_1 x8_1) (rd (rd_L3 l1 x8_1) a2)).f0) [.int .i64 ((rd_T60 (rd_L2 l0_1 x8_1) (rd (rd_L3 l1 x8_1) a2)).f0)] (fun _ => True) (fun _ => False) rfl rfl ?aP (fun _ hk => hk.elim) ?aF ?aO ?aB ?aS ?aL ?_; (case aP => exact rfl); (case aB => exact (by repeat (first | (with_reducible first | exact HB.out | apply below_alloc | apply pw_below_drewN | apply below_drew1 | refine below_set ?_ GE642.out) | exact HB.out))); (case aF => exact (fun _ _ => trivial)); (case aO => exact (by (with_reducible repeat (first | apply Kd.R_alloc | apply Kd.R_drewN | apply Kd.R_drew)); exact HO_7.out)); (case aS => exact (below_size (by repeat (first | (with_reducible first | exact HB.out | apply below_alloc | apply pw_below_drewN | apply below_drew1 | refine below_set ?_ GE642.out) | exact HB.out)))); (case aL => have := LMc13.out; omega); intro v650 w15 ho hb hg hat; rw [← Ny649.out] at ho; have n0_ := Aside0.mk (blk_grown (g := gb642) (o := .cells #[.slice A0_0 l0_0.length c0_0, .slice (some ad645) l0_1.length c0_1] 27 (0, 0)) (by (with_reducible repeat (first | refine blk_drewN ?_ _ | refine blk_drew ?_ | refine blk_alloc ?_ _)); exact BK642.out) hg (Kd.R_ne HO_7.out BK642.out (by decide))); have n1_ := Aside0.mk (hb); have n2_ := Aside0.mk (ho); clear BK642; clear HB; clear HO_7; have BK642 := n0_; have HB := n1_; have HO651 := n2_; clear n0_ n1_ n2_; clear ho hb hg hat))
            repeat (go_quiet (first | ((with_reducible refine gate_builtin (b := .append) (xs := #[.tmp 39, .tmp 41]) rfl ?_); at_builtin; refine Kd.R_append (Kd.int .i64) (w0 := w) w.heap.size rfl (.tmp 39) (.tmp 41) 22 3 (.int .i64 0) 8 rfl Try.underlying22 info3 rfl (by decide) (by omega) u7 x7_1 ((rd_T60 (rd_L2 l0_1 x8_1) (rd (rd_L3 l1 x8_1) a2)).f0) [.int .i64 ((rd_T60 (rd_L2 l0_1 x8_1) (rd (rd_L3 l1 x8_1) a2)).f0)] (fun _ => True) (fun _ => False) rfl rfl ?aP (fun _ hk => hk.elim) ?aF ?aO ?aB ?aS ?aL ?_; (case aP => exact rfl); (case aB => exact (by repeat (first | (with_reducible first | exact HB.out | apply below_alloc | apply pw_below_drewN | apply below_drew1 | refine below_set ?_ GE642.out) | exact HB.out))); (case aF => exact (fun _ _ => trivial)); (case aO => exact (by (with_reducible repeat (first | apply Kd.R_alloc | apply Kd.R_drewN | apply Kd.R_drew)); exact HO_7.out)); (case aS => exact (below_size (by repeat (first | (with_reducible first | exact HB.out | apply below_alloc | apply pw_below_drewN | apply below_drew1 | refine below_set ?_ GE642.out) | exact HB.out)))); (case aL => have := LMc13.out; omega); intro v650 w15 ho hb hg hat; rw [← Ny649.out] at ho; have n0_ := Aside0.mk (blk_grown (g := gb642) (o := .cells #[.slice A0_0 l0_0.length c0_0, .slice (some ad645) l0_1.length c0_1] 27 (0, 0)) (by (with_reducible repeat (first | refine blk_drewN ?_ _ | refine blk_drew ?_ | refine blk_alloc ?_ _)); exact BK642.out) hg (Kd.R_ne HO_7.out BK642.out (by decide))); have n1_ := Aside0.mk (hb); have n2_ := Aside0.mk (ho); clear BK642; clear HB; clear HO_7; have BK642 := n0_; have HB := n1_; have HO651 := n2_; clear n0_ n1_ n2_; clear ho hb hg hat)); try go_wp2_with (first | ((with_reducible refine gate_builtin (b := .append) (xs := #[.tmp 39, .tmp 41]) rfl ?_); at_builtin; refine Kd.R_append (Kd.int .i64) (w0 := w) w.heap.size rfl (.tmp 39) (.tmp 41) 22 3 (.int .i64 0) 8 rfl Try.underlying22 info3 rfl (by decide) (by omega) u7 x7_1 ((rd_T60 (rd_L2 l0_1 x8_1) (rd (rd_L3 l1 x8_1) a2)).f0) [.int .i64 ((rd_T60 (rd_L2 l0_1 x8_1) (rd (rd_L3 l1 x8_1) a2)).f0)] (fun _ => True) (fun _ => False) rfl rfl ?aP (fun _ hk => hk.elim) ?aF ?aO ?aB ?aS ?aL ?_; (case aP => exact rfl); (case aB => exact (by repeat (first | (with_reducible first | exact HB.out | apply below_alloc | apply pw_below_drewN | apply below_drew1 | refine below_set ?_ GE642.out) | exact HB.out))); (case aF => exact (fun _ _ => trivial)); (case aO => exact (by (with_reducible repeat (first | apply Kd.R_alloc | apply Kd.R_drewN | apply Kd.R_drew)); exact HO_7.out)); (case aS => exact (below_size (by repeat (first | (with_reducible first | exact HB.out | apply below_alloc | apply pw_below_drewN | apply below_drew1 | refine below_set ?_ GE642.out) | exact HB.out)))); (case aL => have := LMc13.out; omega); intro v650 w15 ho hb hg hat; rw [← Ny649.out] at ho; have n0_ := Aside0.mk (blk_grown (g := gb642) (o := .cells #[.slice A0_0 l0_0.length c0_0, .slice (some ad645) l0_1.length c0_1] 27 (0, 0)) (by (with_reducible repeat (first | refine blk_drewN ?_ _ | refine blk_drew ?_ | refine blk_alloc ?_ _)); exact BK642.out) hg (Kd.R_ne HO_7.out BK642.out (by decide))); have n1_ := Aside0.mk (hb); have n2_ := Aside0.mk (ho); clear BK642; clear HB; clear HO_7; have BK642 := n0_; have HB := n1_; have HO651 := n2_; clear n0_ n1_ n2_; clear ho hb hg hat)))
            go_roundg k1
            case measure => have := HK1.out; omega
            case rel => exact ⟨(y649), (wrap64 (x8_1 + 1)), (by first | rfl | (simp; done) | (simp [*]; done)), H', ⟨by have := HK1.out; omega⟩, ⟨by (with_reducible repeat (first | apply Kd.R_alloc | apply Kd.R_drewN | apply Kd.R_drew)); exact HO651.out⟩, ⟨by (with_reducible repeat (first | refine blk_drewN ?_ _ | refine blk_drew ?_ | refine blk_alloc ?_ _)); exact BK642.out⟩, ⟨by repeat (first | (with_reducible first | exact HB.out | apply below_alloc | apply pw_below_drewN | apply below_drew1 | refine below_set ?_ GE642.out) | exact HB.out)⟩⟩
           ·
            rw [if_neg c13] at H
            exact absurd H (by simp)
          ·
           rw [if_neg c12] at H
           exact absurd H (by simp)
         ·
          rw [if_neg c11] at H
          exact absurd H (by simp)
        ·
         rw [if_neg c10] at H
         exact absurd H (by simp)
       ·
        rw [if_neg c9] at H
        have c9b0 : decide (0 ≤ (rd (rd_L3 l1 x8_1) a2)) = false := decide_eq_false c9
        clear c9
        by_cases c16 : x7_1.length < 17592186044416
        ·
         rw [if_pos c16] at H
         have LMc16 := Aside0.mk c16
         clear c16
         obtain ⟨y652, hy652⟩ : ∃ y_ : List Int, y_ = (x7_1 ++ [(-1)]) := ⟨_, rfl⟩
         replace H : (selfstabref23_Named.l0 k1 l1 a2 y652 (wrap64 (x8_1 + 1)) l0_0 l0_1) = some r := by first | (rw [hy652]; with_reducible exact H) | (have H2_ := (Option.bind_some _ _).symm.trans H; rw [hy652]; with_reducible exact H2_) | (have H2_ := (Option.bind_some _ _).symm.trans H; with_reducible exact H2_) | with_reducible exact H | (rw [hy652]; exact H) | exact H
         have Ny652 := Aside0.mk hy652
         clear hy652
         have H' := Aside0.mk H
         clear H
         have p643 : 0 ≤ (x8_1 : Int) := of_decide_eq_true (by first | (with_reducible assumption) | assumption)
         have q643 : x8_1 < (l1.length : Int) := of_decide_eq_true (by first | (with_reducible assumption) | assumption)
         obtain ⟨ad643, A643_0, c643_0, e643, hx643_0, hl643_0, hi643_0⟩ := at_L3 HR1.out x8_1 p643 q643
         cases e643
         replace hx643_0 := (HB.out.cell (World.block_lt_of_cell? w _ hx643_0)).trans hx643_0
         have HR643_0 := Aside0.mk hi643_0
         have HC643_0 := Aside0.mk hl643_0
         clear hi643_0 hl643_0
         replace p643 := eq_true p643
         replace q643 := eq_true q643
         have p644 : 0 ≤ (a2 : Int) := of_decide_eq_true (by first | (with_reducible assumption) | assumption)
         have q644 : a2 < ((rd_L3 l1 x8_1).length : Int) := of_decide_eq_true (by first | (with_reducible assumption) | assumption)
         obtain ⟨ad644, e644, hx644_0⟩ := Kd.at_int HR643_0.out a2 p644 q644
         cases e644
         replace hx644_0 := (HB.out.cell (World.block_lt_of_cell? w _ hx644_0)).trans hx644_0
         replace p644 := eq_true p644
         replace q644 := eq_true q644
         go_wp2_with (first | ((with_reducible refine gate_builtin (b := .append) (xs := #[.tmp 39, .tmp 41]) rfl ?_); at_builtin; refine Kd.R_append (Kd.int .i64) (w0 := w) w.heap.size rfl (.tmp 39) (.tmp 41) 22 3 (.int .i64 0) 8 rfl Try.underlying22 info3 rfl (by decide) (by omega) u7 x7_1 (-1) [.int .i64 (-1)] (fun _ => True) (fun _ => False) rfl rfl ?aP (fun _ hk => hk.elim) ?aF ?aO ?aB ?aS ?aL ?_; (case aP => exact rfl); (case aB => exact (by repeat (first | (with_reducible first | exact HB.out | apply below_alloc | apply pw_below_drewN | apply below_drew1 | refine below_set ?_ GE642.out) | exact HB.out))); (case aF => exact (fun _ _ => trivial)); (case aO => exact (by (with_reducible repeat (first | apply Kd.R_alloc | apply Kd.R_drewN | apply Kd.R_drew)); exact HO_7.out)); (case aS => exact (below_size (by repeat (first | (with_reducible first | exact HB.out | apply below_alloc | apply pw_below_drewN | apply below_drew1 | refine below_set ?_ GE642.out) | exact HB.out)))); (case aL => have := LMc16.out; omega); intro v653 w17 ho hb hg hat; rw [← Ny652.out] at ho; have n0_ := Aside0.mk (blk_grown (g := gb642) (o := .cells #[.slice A0_0 l0_0.length c0_0, .slice A0_1 l0_1.length c0_1] 27 (0, 0)) (by (with_reducible repeat (first | refine blk_drewN ?_ _ | refine blk_drew ?_ | refine blk_alloc ?_ _)); exact BK642.out) hg (Kd.R_ne HO_7.out BK642.out (by decide))); have n1_ := Aside0.mk (hb); have n2_ := Aside0.mk (ho); clear BK642; clear HB; clear HO_7; have BK642 := n0_; have HB := n1_; have HO654 := n2_; clear n0_ n1_ n2_; clear ho hb hg hat))
         repeat (go_quiet (first | ((with_reducible refine gate_builtin (b := .append) (xs := #[.tmp 39, .tmp 41]) rfl ?_); at_builtin; refine Kd.R_append (Kd.int .i64) (w0 := w) w.heap.size rfl (.tmp 39) (.tmp 41) 22 3 (.int .i64 0) 8 rfl Try.underlying22 info3 rfl (by decide) (by omega) u7 x7_1 (-1) [.int .i64 (-1)] (fun _ => True) (fun _ => False) rfl rfl ?aP (fun _ hk => hk.elim) ?aF ?aO ?aB ?aS ?aL ?_; (case aP => exact rfl); (case aB => exact (by repeat (first | (with_reducible first | exact HB.out | apply below_alloc | apply pw_below_drewN | apply below_drew1 | refine below_set ?_ GE642.out) | exact HB.out))); (case aF => exact (fun _ _ => trivial)); (case aO => exact (by (with_reducible repeat (first | apply Kd.R_alloc | apply Kd.R_drewN | apply Kd.R_drew)); exact HO_7.out)); (case aS => exact (below_size (by repeat (first | (with_reducible first | exact HB.out | apply below_alloc | apply pw_below_drewN | apply below_drew1 | refine below_set ?_ GE642.out) | exact HB.out)))); (case aL => have := LMc16.out; omega); intro v653 w17 ho hb hg hat; rw [← Ny652.out] at ho; have n0_ := Aside0.mk (blk_grown (g := gb642) (o := .cells #[.slice A0_0 l0_0.length c0_0, .slice A0_1 l0_1.length c0_1] 27 (0, 0)) (by (with_reducible repeat (first | refine blk_drewN ?_ _ | refine blk_drew ?_ | refine blk_alloc ?_ _)); exact BK642.out) hg (Kd.R_ne HO_7.out BK642.out (by decide))); have n1_ := Aside0.mk (hb); have n2_ := Aside0.mk (ho); clear BK642; clear HB; clear HO_7; have BK642 := n0_; have HB := n1_; have HO654 := n2_; clear n0_ n1_ n2_; clear ho hb hg hat)); try go_wp2_with (first | ((with_reducible refine gate_builtin (b := .append) (xs := #[.tmp 39, .tmp 41]) rfl ?_); at_builtin; refine Kd.R_append (Kd.int .i64) (w0 := w) w.heap.size rfl (.tmp 39) (.tmp 41) 22 3 (.int .i64 0) 8 rfl Try.underlying22 info3 rfl (by decide) (by omega) u7 x7_1 (-1) [.int .i64 (-1)] (fun _ => True) (fun _ => False) rfl rfl ?aP (fun _ hk => hk.elim) ?aF ?aO ?aB ?aS ?aL ?_; (case aP => exact rfl); (case aB => exact (by repeat (first | (with_reducible first | exact HB.out | apply below_alloc | apply pw_below_drewN | apply below_drew1 | refine below_set ?_ GE642.out) | exact HB.out))); (case aF => exact (fun _ _ => trivial)); (case aO => exact (by (with_reducible repeat (first | apply Kd.R_alloc | apply Kd.R_drewN | apply Kd.R_drew)); exact HO_7.out)); (case aS => exact (below_size (by repeat (first | (with_reducible first | exact HB.out | apply below_alloc | apply pw_below_drewN | apply below_drew1 | refine below_set ?_ GE642.out) | exact HB.out)))); (case aL => have := LMc16.out; omega); intro v653 w17 ho hb hg hat; rw [← Ny652.out] at ho; have n0_ := Aside0.mk (blk_grown (g := gb642) (o := .cells #[.slice A0_0 l0_0.length c0_0, .slice A0_1 l0_1.length c0_1] 27 (0, 0)) (by (with_reducible repeat (first | refine blk_drewN ?_ _ | refine blk_drew ?_ | refine blk_alloc ?_ _)); exact BK642.out) hg (Kd.R_ne HO_7.out BK642.out (by decide))); have n1_ := Aside0.mk (hb); have n2_ := Aside0.mk (ho); clear BK642; clear HB; clear HO_7; have BK642 := n0_; have HB := n1_; have HO654 := n2_; clear n0_ n1_ n2_; clear ho hb hg hat)))
         go_roundg k1
         case measure => have := HK1.out; omega
         case rel => exact ⟨(y652), (wrap64 (x8_1 + 1)), (by first | rfl | (simp; done) | (simp [*]; done)), H', ⟨by have := HK1.out; omega⟩, ⟨by (with_reducible repeat (first | apply Kd.R_alloc | apply Kd.R_drewN | apply Kd.R_drew)); exact HO654.out⟩, ⟨by (with_reducible repeat (first | refine blk_drewN ?_ _ | refine blk_drew ?_ | refine blk_alloc ?_ _)); exact BK642.out⟩, ⟨by repeat (first | (with_reducible first | exact HB.out | apply below_alloc | apply pw_below_drewN | apply below_drew1 | refine below_set ?_ GE642.out) | exact HB.out)⟩⟩
        ·
         rw [if_neg c16] at H
         exact absurd H (by simp)
      ·
       rw [if_neg c8] at H
       exact absurd H (by simp)
     ·
      rw [if_neg c7] at H
      exact absurd H (by simp)
    ·
     rw [if_neg c6] at H
     exact absurd H (by simp)
   ·
    rw [if_neg c5] at H
    have c5b0 : decide (x8_1 < (l1.length : Int)) = false := decide_eq_false c5
    clear c5
    obtain rfl := Option.some.inj H
    go_wp2
    repeat (go_quiet (fail); try go_wp2)
    go_ret
    exact ⟨_, by first | rfl | (simp [errW_none, errW_some] <;> rfl) | (simp [*, errW_none, errW_some] <;> rfl), by (with_reducible repeat (first | apply Kd.R_alloc | apply Kd.R_drewN | apply Kd.R_drew)); exact HO_7.out, by repeat (first | (with_reducible first | exact HB.out | apply below_alloc | apply pw_below_drewN | apply below_drew1 | refine below_set ?_ GE642.out) | exact HB.out)⟩
end Go.Proofs.YthapikakneikbaaG
namespace Go.Proofs.YthapikakneikbaaG
open Go.RowKit Go.Proofs.YthapikakneikbaaW.PrintWords Go.Proofs.YthapikakneikbaaW.PrintLast Go.Proofs.YthapikakneikbaaW.PrintMore
attribute [local go_sem] max2_int min2_int max_two min_two max_three min_three max_four min_four   -- for this text's walks alone
set_option linter.unusedVariables false
set_option linter.unusedSimpArgs false
/-! ### selfstabref23_Parents: function 46 -/
def selfstabref23_Parents.f (k : Nat) (l0_0 : List Int) (l0_1 : List (List (S60))) (l1 : List (List Int)) : Option (List Int) := (selfstabref23_Fit.f k l0_0 l0_1).bind fun t656 => (if t656 = true then ((selfstabref23_Vars.f).bind fun t657 => ((selfstabref23_Config.f l0_0 l0_1 l1 t657).bind fun t660 => (if t660 = true then ((selfstabref23_Named.f k l0_0 l0_1 l1 1).bind fun t661 => (some t661)) else (some ([] : List Int))))) else (some ([] : List Int)))
theorem selfstabref23_Parents.mono : ∀ a0 a1 a2 k, LeO (selfstabref23_Parents.f k a0 a1 a2) (selfstabref23_Parents.f (k + 1) a0 a1 a2) := by
 intro a0 a1 a2 k
 unfold selfstabref23_Parents.f
 repeat' first
   | (with_reducible exact selfstabref23_Fit.mono _ _ _)
   | (with_reducible exact selfstabref23_Named.mono _ _ _ _ _)
   | (with_reducible exact LeO.refl _)
   | (with_reducible exact LeO.none _)
   | (with_reducible refine LeO.ite ?_ ?_)
   | (with_reducible refine LeO.bind ?_ (fun _ => ?_))
   | exact selfstabref23_Fit.mono _ _ _
   | exact selfstabref23_Named.mono _ _ _ _ _
   | exact LeO.none _
   | refine LeO.ite ?_ ?_
   | refine LeO.bind ?_ (fun _ => ?_)
def selfstabref23_Parents.T1 : Bool × List (List Nat × List Nat) := (true, [([], []), ([0], [0]), ([1], [1]), ([2, 1], [2]), ([3], [3]), ([3], [3]), ([3, 3], [3]), ([4, 5, 6, 6, 3], [3, 4, 5, 6]), ([7, 3], [3, 7]), ([3, 8], [3, 8])])
def selfstabref23_Parents.B1 : List Nat := [0, 1, 3, 7, 15, 15, 15, 127, 255, 511]
theorem selfstabref23_Parents.tab1 : rtab .any (opsOf Try.f46 1) = selfstabref23_Parents.T1 := by kernel_rfl
theorem selfstabref23_Parents.bits1 : waitsOk selfstabref23_Parents.T1.2 selfstabref23_Parents.B1 = true := by kernel_rfl
set_option maxHeartbeats 8000000 in
set_option maxRecDepth 100000 in
theorem selfstabref23_Parents.calls (k : Nat) (A0_0 : Option Addr) (c0_0 : Nat) (l0_0 : List Int) (A0_1 : Option Addr) (c0_1 : Nat) (l0_1 : List (List (S60))) (A1 : Option Addr) (c1 : Nat) (l1 : List (List Int)) (r : List Int) (w : World) (hr0_0 : Kd.C (Kd.int .i64) w A0_0 l0_0.length l0_0) (hc0_0 : l0_0.length ≤ c0_0) (hr0_1 : Kd.C (Kd.slice 60 k60) w A0_1 l0_1.length l0_1) (hc0_1 : l0_1.length ≤ c0_1) (hr1 : Kd.C (Kd.slice 3 (Kd.int .i64)) w A1 l1.length l1) (hc1 : l1.length ≤ c1) (h : selfstabref23_Parents.f k l0_0 l0_1 l1 = some r) :
  Calls Try.prog 46 #[.agg #[.slice A0_0 l0_0.length c0_0, .slice A0_1 l0_1.length c0_1], .slice A1 l1.length c1] w fun e w' => ∃ v0_ : Value, e = .returned (v0_) ∧ Kd.R (Kd.int .i64) 3 w' w.heap.size (fun _ => True) v0_ r ∧ Below w.heap.size w w' := by
 have hu27 := Try.underlying27
 have HR0_0 := Aside0.mk hr0_0
 have HC0_0 := Aside0.mk hc0_0
 clear hr0_0 hc0_0
 have HR0_1 := Aside0.mk hr0_1
 have HC0_1 := Aside0.mk hc0_1
 clear hr0_1 hc0_1
 have HR1 := Aside0.mk hr1
 have HC1 := Aside0.mk hc1
 clear hr1 hc1
 have HB := Aside0.mk (Below.refl w.heap.size w)
 have H : ((selfstabref23_Fit.f k l0_0 l0_1).bind fun t656 => (if t656 = true then ((selfstabref23_Vars.f).bind fun t657 => ((selfstabref23_Config.f l0_0 l0_1 l1 t657).bind fun t660 => (if t660 = true then ((selfstabref23_Named.f k l0_0 l0_1 l1 1).bind fun t661 => (some t661)) else (some ([] : List Int))))) else (some ([] : List Int)))) = some r := h
 clear h
 replace H := Option.bind_eq_some_iff.mp H
 obtain ⟨t656, A30, H⟩ := H
 replace H : (if t656 = true then ((selfstabref23_Vars.f).bind fun t657 => ((selfstabref23_Config.f l0_0 l0_1 l1 t657).bind fun t660 => (if t660 = true then ((selfstabref23_Named.f k l0_0 l0_1 l1 1).bind fun t661 => (some t661)) else (some ([] : List Int))))) else (some ([] : List Int))) = some r := H
 have A3 := Aside0.mk A30
 clear A30
 by_cases c4 : t656 = true
 ·
  subst c4
  have H1 : ((selfstabref23_Vars.f).bind fun t657 => ((selfstabref23_Config.f l0_0 l0_1 l1 t657).bind fun t660 => (if t660 = true then ((selfstabref23_Named.f k l0_0 l0_1 l1 1).bind fun t661 => (some t661)) else (some ([] : List Int))))) = some r := by rw [if_pos rfl] at H; exact H
  clear H
  have H := H1
  clear H1
  replace H := Option.bind_eq_some_iff.mp H
  obtain ⟨t657, A50, H⟩ := H
  replace H : ((selfstabref23_Config.f l0_0 l0_1 l1 t657).bind fun t660 => (if t660 = true then ((selfstabref23_Named.f k l0_0 l0_1 l1 1).bind fun t661 => (some t661)) else (some ([] : List Int)))) = some r := H
  have A5 := Aside0.mk A50
  clear A50
  replace H := Option.bind_eq_some_iff.mp H
  obtain ⟨t660, A60, H⟩ := H
  replace H : (if t660 = true then ((selfstabref23_Named.f k l0_0 l0_1 l1 1).bind fun t661 => (some t661)) else (some ([] : List Int))) = some r := H
  have A6 := Aside0.mk A60
  clear A60
  by_cases c7 : t660 = true
  ·
   subst c7
   have H1 : ((selfstabref23_Named.f k l0_0 l0_1 l1 1).bind fun t661 => (some t661)) = some r := by rw [if_pos rfl] at H; exact H
   clear H
   have H := H1
   clear H1
   replace H := Option.bind_eq_some_iff.mp H
   obtain ⟨t661, A80, H⟩ := H
   replace H : (some t661) = some r := H
   have A8 := Aside0.mk A80
   clear A80
   obtain rfl := Option.some.inj H
   go_enter Try.func46, Try.ntmps46
   try go_wp2_with (first | ((with_reducible refine gate_dst (N := 2) rfl ?_); refine box_event ?hg (N := 2) ?hd (cs := #[.slice A0_0 l0_0.length c0_0, .slice A0_1 l0_1.length c0_1]) (t := 27) ?hr ?_; (case hd => rfl); (case hg => rfl); (case hr => first | (go_simp; done) | (go_simp; rfl)); intro gb655 hg w9 hbox hb; have n0_ := Aside0.mk (below_step (by repeat (first | (with_reducible first | exact HB.out | apply below_alloc | apply pw_below_drewN | apply below_drew1) | exact HB.out)) hb); have n1_ := Aside0.mk (hbox); have n2_ := Aside0.mk ((by rw [hg]; exact (below_size (by repeat (first | (with_reducible first | exact HB.out | apply below_alloc | apply pw_below_drewN | apply below_drew1) | exact HB.out))) : w.heap.size ≤ gb655)); have n3_ := Aside0.mk ((by rw [hg]; exact (below_size (by repeat (first | (with_reducible first | exact HB.out | apply below_alloc | apply pw_below_drewN | apply below_drew1) | exact HB.out))) : w.heap.size ≤ gb655)); clear HB; have HB := n0_; have BK655 := n1_; have GW655 := n2_; have GE655 := n3_; clear n0_ n1_ n2_ n3_; clear hb hbox hg))
   have n0_ := Aside0.mk (blk_drew BK655.out)
   have n1_ := Aside0.mk (below_drew1 HB.out)
   clear BK655
   clear HB
   have BK655 := n0_
   have HB := n1_
   clear n0_ n1_
   refine start_ (n := 10) (S := fun w' => w'.cell? ⟨gb655, 0, none⟩ = some (.slice A0_0 l0_0.length c0_0) ∧ w'.cell? ⟨gb655, 1, none⟩ = some (.slice A0_1 l0_1.length c0_1)) (ds := []) #[false, false, false, false, false, false, false, false, false, false] (by kernel_rfl) rfl rfl ⟨(blk_cell BK655.out 0).trans rfl, (blk_cell BK655.out 1).trans rfl⟩ (fun hHeld => ?_); refine with_tabW selfstabref23_Parents.tab1 selfstabref23_Parents.bits1 (fun HT_ HW_ => ?_)
   generalize w9.drew = w10 at BK655 HB hHeld ⊢
   refine take_ (i := 0) (N := some 5) (v := ?_) (a' := ?_) #[true, false, false, false, false, false, false, false, false, false] rfl rfl (take_ofW HT_.out HW_.out (by kernel_rfl)) (fun _ _ _ h => h) (Or.inl ⟨by rfl, ?_⟩) hHeld ?_ ?_
   rotate_left
   ·
    rintro w' ⟨s0, s1⟩
    go_simp
    with_reducible rfl
   rotate_left
   ·
    simp only [Act.put, List.setIfInBounds_toArray, List.set_cons_zero, List.set_cons_succ, i64_w, i32_w]
    rfl
   refine one_ (i := 1) (N := some 6) #[true, true, false, false, false, false, false, false, false, false] rfl rfl (one_of HT_.out (by kernel_rfl)) (by decide) (fun K hK => ?_)
   refine goes_ Try.func39 (by kernel_rfl) rfl #[.agg #[.slice A0_0 l0_0.length c0_0, .slice A0_1 l0_1.length c0_1]] (by rfl) rfl rfl (by (try simp only [List.map_toArray, List.map_cons, List.map_nil]); first | done | rfl | (simp only [List.length_drop, List.length_take]; rfl)) ?_
   with_reducible refine (selfstabref23_Fit.calls k _ _ l0_0 _ _ l0_1 true _ ?side1 ?side2 ?side3 ?side4 A3.out).mono ?_
   (case side1 => repeat (first | exact (Kd.C_below HR0_0.out HB.out) | (with_reducible refine Kd.C_alloc ?_ _) | (with_reducible refine Kd.C_drewN ?_ _) | (with_reducible refine Kd.C_drew ?_)))
   (case side2 => exact HC0_0.out)
   (case side3 => repeat (first | exact (Kd.C_below HR0_1.out HB.out) | (with_reducible refine Kd.C_alloc ?_ _) | (with_reducible refine Kd.C_drewN ?_ _) | (with_reducible refine Kd.C_drew ?_)))
   (case side4 => exact HC0_1.out)
   rintro e w11 ⟨rfl, hb⟩
   refine ⟨_, rfl, ?_⟩
   have n0_ := Aside0.mk (blk_below (g := gb655) (o := .cells #[.slice A0_0 l0_0.length c0_0, .slice A0_1 l0_1.length c0_1] 27 (0, 0)) (by (with_reducible repeat (first | refine blk_drewN ?_ _ | refine blk_drew ?_ | refine blk_alloc ?_ _)); exact BK655.out) hb)
   have n1_ := Aside0.mk (below_step (by repeat (first | (with_reducible first | exact HB.out | apply below_alloc | apply pw_below_drewN | apply below_drew1 | refine below_set ?_ GE655.out) | exact HB.out)) hb)
   clear BK655
   clear HB
   have BK655 := n0_
   have HB := n1_
   clear n0_ n1_
   (try clear hb)
   (try clear hb2)
   (try clear hk)
   (try clear hi)
   refine hK.out _ _ ⟨(blk_cell BK655.out 0).trans rfl, (blk_cell BK655.out 1).trans rfl⟩ (fun hHeld => ?_)
   clear hK K
   refine norm_ (a' := ?_) ?_ ?_
   rotate_left
   ·
    show Act.put _ (some 6) _ = _
    simp only [Act.put, List.setIfInBounds_toArray, List.set_cons_zero, List.set_cons_succ, i64_w, i32_w]
    rfl
   refine pure_ (i := 2) (N := some 7) (v := ?_) (a' := ?_) #[true, true, true, false, false, false, false, false, false, false] rfl rfl (any_of HT_.out (by kernel_rfl)) (fun _ _ _ h => h) (Or.inl ⟨by rfl, ?_⟩) ?_ ?_
   rotate_left
   ·
    intro w'
    go_simp
    with_reducible rfl
   rotate_left
   ·
    simp only [Act.put, List.setIfInBounds_toArray, List.set_cons_zero, List.set_cons_succ, i64_w, i32_w]
    rfl
   refine pure_ (i := 3) (N := some 8) (v := ?_) (a' := ?_) #[true, true, true, true, false, false, false, false, false, false] rfl rfl (any_of HT_.out (by kernel_rfl)) (fun _ _ _ h => h) (Or.inl ⟨by rfl, ?_⟩) ?_ ?_
   rotate_left
   ·
    intro w'
    go_simp
    with_reducible rfl
   rotate_left
   ·
    simp only [Act.put, List.setIfInBounds_toArray, List.set_cons_zero, List.set_cons_succ, i64_w, i32_w]
    rfl
   refine pure_ (i := 5) (N := some 10) (v := ?_) (a' := ?_) #[true, true, true, true, false, true, false, false, false, false] rfl rfl (any_of HT_.out (by kernel_rfl)) (fun _ _ _ h => h) (Or.inl ⟨by rfl, ?_⟩) ?_ ?_
   rotate_left
   ·
    intro w'
    go_simp
    with_reducible rfl
   rotate_left
   ·
    simp only [Act.put, List.setIfInBounds_toArray, List.set_cons_zero, List.set_cons_succ, i64_w, i32_w]
    rfl
   refine take_ (i := 4) (N := some 9) (v := ?_) (a' := ?_) #[true, true, true, true, true, true, false, false, false, false] rfl rfl (take_ofW HT_.out HW_.out (by kernel_rfl)) (fun _ _ _ h => h) (Or.inl ⟨by rfl, ?_⟩) hHeld ?_ ?_
   rotate_left
   ·
    rintro w' ⟨s0, s1⟩
    go_simp
    with_reducible rfl
   rotate_left
   ·
    simp only [Act.put, List.setIfInBounds_toArray, List.set_cons_zero, List.set_cons_succ, i64_w, i32_w]
    rfl
   refine one_ (i := 6) (N := some 11) #[true, true, true, true, true, true, true, false, false, false] rfl rfl (one_of HT_.out (by kernel_rfl)) (by decide) (fun K hK => ?_)
   refine goes_ Try.func92 (by kernel_rfl) rfl #[] (by rfl) rfl rfl (by (try simp only [List.map_toArray, List.map_cons, List.map_nil]); first | done | rfl | (simp only [List.length_drop, List.length_take]; rfl)) ?_
   with_reducible refine (selfstabref23_Vars.calls  t657 _ A5.out).mono ?_
   rintro e w12 ⟨v658, rfl, ho0, hb⟩
   refine ⟨_, rfl, ?_⟩
   have n0_ := Aside0.mk (Kd.R_lower ho0 (below_size (by repeat (first | (with_reducible first | exact HB.out | apply below_alloc | apply pw_below_drewN | apply below_drew1 | refine below_set ?_ GE655.out) | exact HB.out))))
   have n1_ := Aside0.mk (blk_below (g := gb655) (o := .cells #[.slice A0_0 l0_0.length c0_0, .slice A0_1 l0_1.length c0_1] 27 (0, 0)) (by (with_reducible repeat (first | refine blk_drewN ?_ _ | refine blk_drew ?_ | refine blk_alloc ?_ _)); exact BK655.out) hb)
   have n2_ := Aside0.mk (below_step (by repeat (first | (with_reducible first | exact HB.out | apply below_alloc | apply pw_below_drewN | apply below_drew1 | refine below_set ?_ GE655.out) | exact HB.out)) hb)
   clear BK655
   clear HB
   have HO659 := n0_
   have BK655 := n1_
   have HB := n2_
   clear n0_ n1_ n2_
   (try clear hb)
   (try clear hb2)
   (try clear hk)
   (try clear hi)
   (try clear ho0)
   obtain ⟨Ao13, co13, eo13⟩ := Kd.R_slice HO659.out
   (first | subst eo13 | (injection eo13 with f1_ f2_ f3_; have f4_ := f1_.symm; have f5_ := f3_.symm; clear f1_ f2_ f3_; subst f4_; subst f5_))
   refine hK.out _ _ ⟨(blk_cell BK655.out 0).trans rfl, (blk_cell BK655.out 1).trans rfl⟩ (fun hHeld => ?_)
   clear hK K
   refine norm_ (a' := ?_) ?_ ?_
   rotate_left
   ·
    show Act.put _ (some 11) _ = _
    simp only [Act.put, List.setIfInBounds_toArray, List.set_cons_zero, List.set_cons_succ, i64_w, i32_w]
    rfl
   refine one_ (i := 7) (N := some 12) #[true, true, true, true, true, true, true, true, false, false] rfl rfl (one_of HT_.out (by kernel_rfl)) (by decide) (fun K hK => ?_)
   refine goes_ Try.func83 (by kernel_rfl) rfl #[.agg #[.slice A0_0 l0_0.length c0_0, .slice A0_1 l0_1.length c0_1], .slice A1 l1.length c1, .slice Ao13 t657.length co13] (by rfl) rfl rfl (by (try simp only [List.map_toArray, List.map_cons, List.map_nil]); first | done | rfl | (simp only [List.length_drop, List.length_take]; rfl)) ?_
   with_reducible refine (selfstabref23_Config.calls _ _ l0_0 _ _ l0_1 _ _ l1 _ _ t657 true _ ?side1 ?side2 ?side3 ?side4 ?side5 ?side6 ?side7 ?side8 A6.out).mono ?_
   (case side1 => repeat (first | exact (Kd.C_below HR0_0.out HB.out) | (with_reducible refine Kd.C_alloc ?_ _) | (with_reducible refine Kd.C_drewN ?_ _) | (with_reducible refine Kd.C_drew ?_)))
   (case side2 => exact HC0_0.out)
   (case side3 => repeat (first | exact (Kd.C_below HR0_1.out HB.out) | (with_reducible refine Kd.C_alloc ?_ _) | (with_reducible refine Kd.C_drewN ?_ _) | (with_reducible refine Kd.C_drew ?_)))
   (case side4 => exact HC0_1.out)
   (case side5 => repeat (first | exact (Kd.C_below HR1.out HB.out) | (with_reducible refine Kd.C_alloc ?_ _) | (with_reducible refine Kd.C_drewN ?_ _) | (with_reducible refine Kd.C_drew ?_)))
   (case side6 => exact HC1.out)
   (case side7 => repeat (first | exact (Kd.R_reads' HO659.out).2.2 | (with_reducible refine Kd.C_alloc ?_ _) | (with_reducible refine Kd.C_drewN ?_ _) | (with_reducible refine Kd.C_drew ?_)))
   (case side8 => exact (Kd.R_reads' HO659.out).2.1)
   rintro e w14 ⟨rfl, hb⟩
   refine ⟨_, rfl, ?_⟩
   have n0_ := Aside0.mk (Kd.R_below (by (with_reducible repeat (first | apply Kd.R_alloc | apply Kd.R_drewN | apply Kd.R_drew)); exact HO659.out) hb)
   have n1_ := Aside0.mk (blk_below (g := gb655) (o := .cells #[.slice A0_0 l0_0.length c0_0, .slice A0_1 l0_1.length c0_1] 27 (0, 0)) (by (with_reducible repeat (first | refine blk_drewN ?_ _ | refine blk_drew ?_ | refine blk_alloc ?_ _)); exact BK655.out) hb)
   have n2_ := Aside0.mk (below_step (by repeat (first | (with_reducible first | exact HB.out | apply below_alloc | apply pw_below_drewN | apply below_drew1 | refine below_set ?_ GE655.out) | exact HB.out)) hb)
   clear HO659
   clear BK655
   clear HB
   have HO659 := n0_
   have BK655 := n1_
   have HB := n2_
   clear n0_ n1_ n2_
   (try clear hb)
   (try clear hb2)
   (try clear hk)
   (try clear hi)
   refine hK.out _ _ ⟨(blk_cell BK655.out 0).trans rfl, (blk_cell BK655.out 1).trans rfl⟩ (fun hHeld => ?_)
   clear hK K
   refine norm_ (a' := ?_) ?_ ?_
   rotate_left
   ·
    show Act.put _ (some 12) _ = _
    simp only [Act.put, List.setIfInBounds_toArray, List.set_cons_zero, List.set_cons_succ, i64_w, i32_w]
    rfl
   refine pure_ (i := 8) (N := some 13) (v := ?_) (a' := ?_) #[true, true, true, true, true, true, true, true, true, false] rfl rfl (any_of HT_.out (by kernel_rfl)) (fun _ _ _ h => h) (Or.inl ⟨by rfl, ?_⟩) ?_ ?_
   rotate_left
   ·
    intro w'
    go_simp
    with_reducible rfl
   rotate_left
   ·
    simp only [Act.put, List.setIfInBounds_toArray, List.set_cons_zero, List.set_cons_succ, i64_w, i32_w]
    rfl
   refine pure_ (i := 9) (N := some 14) (v := ?_) (a' := ?_) #[true, true, true, true, true, true, true, true, true, true] rfl rfl (any_of HT_.out (by kernel_rfl)) (fun _ _ _ h => h) (Or.inl ⟨by rfl, ?_⟩) ?_ ?_
   rotate_left
   ·
    intro w'
    go_simp
    with_reducible rfl
   rotate_left
   ·
    simp only [Act.put, List.setIfInBounds_toArray, List.set_cons_zero, List.set_cons_succ, i64_w, i32_w]
    rfl
   refine done_ (done_of HT_.out (by kernel_rfl)) ?_
   have hcz15_0 : w14.cell? ⟨gb655, 0, none⟩ = some (.slice A0_0 l0_0.length c0_0) := (blk_cell BK655.out 0).trans rfl
   have hcz15_1 : w14.cell? ⟨gb655, 1, none⟩ = some (.slice A0_1 l0_1.length c0_1) := (blk_cell BK655.out 1).trans rfl
   have hfz15_0 := blk_frozen BK655.out 0
   have hfz15_1 := blk_frozen BK655.out 1
   try go_wp2_with (first | ((with_reducible refine gate_callee (f := 97) rfl ?_); refine goesL_ (some 17) rfl rfl Try.func97 (by kernel_rfl) rfl #[.agg #[.slice A0_0 l0_0.length c0_0, .slice A0_1 l0_1.length c0_1], .slice A1 l1.length c1, .int .i64 1] rfl (by (try simp only [List.map_toArray, List.map_cons, List.map_nil]); first | done | rfl | (simp only [List.length_drop, List.length_take]; rfl)) ?_; (with_reducible refine (selfstabref23_Named.calls k _ _ l0_0 _ _ l0_1 _ _ l1 1 t661 _ ?side1 ?side2 ?side3 ?side4 ?side5 ?side6 A8.out).mono ?_); (case side1 => repeat (first | exact (Kd.C_below HR0_0.out HB.out) | (with_reducible refine Kd.C_alloc ?_ _) | (with_reducible refine Kd.C_drewN ?_ _) | (with_reducible refine Kd.C_drew ?_))); (case side2 => exact HC0_0.out); (case side3 => repeat (first | exact (Kd.C_below HR0_1.out HB.out) | (with_reducible refine Kd.C_alloc ?_ _) | (with_reducible refine Kd.C_drewN ?_ _) | (with_reducible refine Kd.C_drew ?_))); (case side4 => exact HC0_1.out); (case side5 => repeat (first | exact (Kd.C_below HR1.out HB.out) | (with_reducible refine Kd.C_alloc ?_ _) | (with_reducible refine Kd.C_drewN ?_ _) | (with_reducible refine Kd.C_drew ?_))); (case side6 => exact HC1.out); rintro e w16 ⟨v662, rfl, ho0, hb⟩; refine ⟨_, rfl, ?_⟩; have n0_ := Aside0.mk (Kd.R_below (by (with_reducible repeat (first | apply Kd.R_alloc | apply Kd.R_drewN | apply Kd.R_drew)); exact HO659.out) hb); have n1_ := Aside0.mk (Kd.R_lower ho0 (below_size (by repeat (first | (with_reducible first | exact HB.out | apply below_alloc | apply pw_below_drewN | apply below_drew1 | refine below_set ?_ GE655.out) | exact HB.out)))); have n2_ := Aside0.mk (blk_below (g := gb655) (o := .cells #[.slice A0_0 l0_0.length c0_0, .slice A0_1 l0_1.length c0_1] 27 (0, 0)) (by (with_reducible repeat (first | refine blk_drewN ?_ _ | refine blk_drew ?_ | refine blk_alloc ?_ _)); exact BK655.out) hb); have n3_ := Aside0.mk (below_step (by repeat (first | (with_reducible first | exact HB.out | apply below_alloc | apply pw_below_drewN | apply below_drew1 | refine below_set ?_ GE655.out) | exact HB.out)) hb); clear HO659; clear BK655; clear HB; have HO659 := n0_; have HO663 := n1_; have BK655 := n2_; have HB := n3_; clear n0_ n1_ n2_ n3_; (try clear hb); (try clear hb2); (try clear hk); (try clear hi); (try clear ho0)))
   go_ret
   exact ⟨_, by first | rfl | (simp [errW_none, errW_some] <;> rfl) | (simp [*, errW_none, errW_some] <;> rfl), by (with_reducible repeat (first | apply Kd.R_alloc | apply Kd.R_drewN | apply Kd.R_drew)); exact HO663.out, by repeat (first | (with_reducible first | exact HB.out | apply below_alloc | apply pw_below_drewN | apply below_drew1 | refine below_set ?_ GE655.out) | exact HB.out)⟩
  ·
   replace c7 := Bool.eq_false_iff.mpr c7
   subst c7
   have H1 : (some ([] : List Int)) = some r := by rw [if_neg (show ¬ (false = true) by decide)] at H; exact H
   clear H
   have H := H1
   clear H1
   obtain rfl := Option.some.inj H
   go_enter Try.func46, Try.ntmps46
   try go_wp2_with (first | ((with_reducible refine gate_dst (N := 2) rfl ?_); refine box_event ?hg (N := 2) ?hd (cs := #[.slice A0_0 l0_0.length c0_0, .slice A0_1 l0_1.length c0_1]) (t := 27) ?hr ?_; (case hd => rfl); (case hg => rfl); (case hr => first | (go_simp; done) | (go_simp; rfl)); intro gb655 hg w17 hbox hb; have n0_ := Aside0.mk (below_step (by repeat (first | (with_reducible first | exact HB.out | apply below_alloc | apply pw_below_drewN | apply below_drew1) | exact HB.out)) hb); have n1_ := Aside0.mk (hbox); have n2_ := Aside0.mk ((by rw [hg]; exact (below_size (by repeat (first | (with_reducible first | exact HB.out | apply below_alloc | apply pw_below_drewN | apply below_drew1) | exact HB.out))) : w.heap.size ≤ gb655)); have n3_ := Aside0.mk ((by rw [hg]; exact (below_size (by repeat (first | (with_reducible first | exact HB.out | apply below_alloc | apply pw_below_drewN | apply below_drew1) | exact HB.out))) : w.heap.size ≤ gb655)); clear HB; have HB := n0_; have BK655 := n1_; have GW655 := n2_; have GE655 := n3_; clear n0_ n1_ n2_ n3_; clear hb hbox hg))
   have n0_ := Aside0.mk (blk_drew BK655.out)
   have n1_ := Aside0.mk (below_drew1 HB.out)
   clear BK655
   clear HB
   have BK655 := n0_
   have HB := n1_
   clear n0_ n1_
   refine start_ (n := 10) (S := fun w' => w'.cell? ⟨gb655, 0, none⟩ = some (.slice A0_0 l0_0.length c0_0) ∧ w'.cell? ⟨gb655, 1, none⟩ = some (.slice A0_1 l0_1.length c0_1)) (ds := []) #[false, false, false, false, false, false, false, false, false, false] (by kernel_rfl) rfl rfl ⟨(blk_cell BK655.out 0).trans rfl, (blk_cell BK655.out 1).trans rfl⟩ (fun hHeld => ?_); refine with_tabW selfstabref23_Parents.tab1 selfstabref23_Parents.bits1 (fun HT_ HW_ => ?_)
   generalize w17.drew = w18 at BK655 HB hHeld ⊢
   refine take_ (i := 0) (N := some 5) (v := ?_) (a' := ?_) #[true, false, false, false, false, false, false, false, false, false] rfl rfl (take_ofW HT_.out HW_.out (by kernel_rfl)) (fun _ _ _ h => h) (Or.inl ⟨by rfl, ?_⟩) hHeld ?_ ?_
   rotate_left
   ·
    rintro w' ⟨s0, s1⟩
    go_simp
    with_reducible rfl
   rotate_left
   ·
    simp only [Act.put, List.setIfInBounds_toArray, List.set_cons_zero, List.set_cons_succ, i64_w, i32_w]
    rfl
   refine one_ (i := 1) (N := some 6) #[true, true, false, false, false, false, false, false, false, false] rfl rfl (one_of HT_.out (by kernel_rfl)) (by decide) (fun K hK => ?_)
   refine goes_ Try.func39 (by kernel_rfl) rfl #[.agg #[.slice A0_0 l0_0.length c0_0, .slice A0_1 l0_1.length c0_1]] (by rfl) rfl rfl (by (try simp only [List.map_toArray, List.map_cons, List.map_nil]); first | done | rfl | (simp only [List.length_drop, List.length_take]; rfl)) ?_
   with_reducible refine (selfstabref23_Fit.calls k _ _ l0_0 _ _ l0_1 true _ ?side1 ?side2 ?side3 ?side4 A3.out).mono ?_
   (case side1 => repeat (first | exact (Kd.C_below HR0_0.out HB.out) | (with_reducible refine Kd.C_alloc ?_ _) | (with_reducible refine Kd.C_drewN ?_ _) | (with_reducible refine Kd.C_drew ?_)))
   (case side2 => exact HC0_0.out)
   (case side3 => repeat (first | exact (Kd.C_below HR0_1.out HB.out) | (with_reducible refine Kd.C_alloc ?_ _) | (with_reducible refine Kd.C_drewN ?_ _) | (with_reducible refine Kd.C_drew ?_)))
   (case side4 => exact HC0_1.out)
   rintro e w19 ⟨rfl, hb⟩
   refine ⟨_, rfl, ?_⟩
   have n0_ := Aside0.mk (blk_below (g := gb655) (o := .cells #[.slice A0_0 l0_0.length c0_0, .slice A0_1 l0_1.length c0_1] 27 (0, 0)) (by (with_reducible repeat (first | refine blk_drewN ?_ _ | refine blk_drew ?_ | refine blk_alloc ?_ _)); exact BK655.out) hb)
   have n1_ := Aside0.mk (below_step (by repeat (first | (with_reducible first | exact HB.out | apply below_alloc | apply pw_below_drewN | apply below_drew1 | refine below_set ?_ GE655.out) | exact HB.out)) hb)
   clear BK655
   clear HB
   have BK655 := n0_
   have HB := n1_
   clear n0_ n1_
   (try clear hb)
   (try clear hb2)
   (try clear hk)
   (try clear hi)
   refine hK.out _ _ ⟨(blk_cell BK655.out 0).trans rfl, (blk_cell BK655.out 1).trans rfl⟩ (fun hHeld => ?_)
   clear hK K
   refine norm_ (a' := ?_) ?_ ?_
   rotate_left
   ·
    show Act.put _ (some 6) _ = _
    simp only [Act.put, List.setIfInBounds_toArray, List.set_cons_zero, List.set_cons_succ, i64_w, i32_w]
    rfl
   refine pure_ (i := 2) (N := some 7) (v := ?_) (a' := ?_) #[true, true, true, false, false, false, false, false, false, false] rfl rfl (any_of HT_.out (by kernel_rfl)) (fun _ _ _ h => h) (Or.inl ⟨by rfl, ?_⟩) ?_ ?_
   rotate_left
   ·
    intro w'
    go_simp
    with_reducible rfl
   rotate_left
   ·
    simp only [Act.put, List.setIfInBounds_toArray, List.set_cons_zero, List.set_cons_succ, i64_w, i32_w]
    rfl
   refine pure_ (i := 3) (N := some 8) (v := ?_) (a' := ?_) #[true, true, true, true, false, false, false, false, false, false] rfl rfl (any_of HT_.out (by kernel_rfl)) (fun _ _ _ h => h) (Or.inl ⟨by rfl, ?_⟩) ?_ ?_
   rotate_left
   ·
    intro w'
    go_simp
    with_reducible rfl
   rotate_left
   ·
    simp only [Act.put, List.setIfInBounds_toArray, List.set_cons_zero, List.set_cons_succ, i64_w, i32_w]
    rfl
   refine pure_ (i := 5) (N := some 10) (v := ?_) (a' := ?_) #[true, true, true, true, false, true, false, false, false, false] rfl rfl (any_of HT_.out (by kernel_rfl)) (fun _ _ _ h => h) (Or.inl ⟨by rfl, ?_⟩) ?_ ?_
   rotate_left
   ·
    intro w'
    go_simp
    with_reducible rfl
   rotate_left
   ·
    simp only [Act.put, List.setIfInBounds_toArray, List.set_cons_zero, List.set_cons_succ, i64_w, i32_w]
    rfl
   refine take_ (i := 4) (N := some 9) (v := ?_) (a' := ?_) #[true, true, true, true, true, true, false, false, false, false] rfl rfl (take_ofW HT_.out HW_.out (by kernel_rfl)) (fun _ _ _ h => h) (Or.inl ⟨by rfl, ?_⟩) hHeld ?_ ?_
   rotate_left
   ·
    rintro w' ⟨s0, s1⟩
    go_simp
    with_reducible rfl
   rotate_left
   ·
    simp only [Act.put, List.setIfInBounds_toArray, List.set_cons_zero, List.set_cons_succ, i64_w, i32_w]
    rfl
   refine one_ (i := 6) (N := some 11) #[true, true, true, true, true, true, true, false, false, false] rfl rfl (one_of HT_.out (by kernel_rfl)) (by decide) (fun K hK => ?_)
   refine goes_ Try.func92 (by kernel_rfl) rfl #[] (by rfl) rfl rfl (by (try simp only [List.map_toArray, List.map_cons, List.map_nil]); first | done | rfl | (simp only [List.length_drop, List.length_take]; rfl)) ?_
   with_reducible refine (selfstabref23_Vars.calls  t657 _ A5.out).mono ?_
   rintro e w20 ⟨v658, rfl, ho0, hb⟩
   refine ⟨_, rfl, ?_⟩
   have n0_ := Aside0.mk (Kd.R_lower ho0 (below_size (by repeat (first | (with_reducible first | exact HB.out | apply below_alloc | apply pw_below_drewN | apply below_drew1 | refine below_set ?_ GE655.out) | exact HB.out))))
   have n1_ := Aside0.mk (blk_below (g := gb655) (o := .cells #[.slice A0_0 l0_0.length c0_0, .slice A0_1 l0_1.length c0_1] 27 (0, 0)) (by (with_reducible repeat (first | refine blk_drewN ?_ _ | refine blk_drew ?_ | refine blk_alloc ?_ _)); exact BK655.out) hb)
   have n2_ := Aside0.mk (below_step (by repeat (first | (with_reducible first | exact HB.out | apply below_alloc | apply pw_below_drewN | apply below_drew1 | refine below_set ?_ GE655.out) | exact HB.out)) hb)
   clear BK655
   clear HB
   have HO659 := n0_
   have BK655 := n1_
   have HB := n2_
   clear n0_ n1_ n2_
   (try clear hb)
   (try clear hb2)
   (try clear hk)
   (try clear hi)
   (try clear ho0)
   obtain ⟨Ao21, co21, eo21⟩ := Kd.R_slice HO659.out
   (first | subst eo21 | (injection eo21 with f1_ f2_ f3_; have f4_ := f1_.symm; have f5_ := f3_.symm; clear f1_ f2_ f3_; subst f4_; subst f5_))
   refine hK.out _ _ ⟨(blk_cell BK655.out 0).trans rfl, (blk_cell BK655.out 1).trans rfl⟩ (fun hHeld => ?_)
   clear hK K
   refine norm_ (a' := ?_) ?_ ?_
   rotate_left
   ·
    show Act.put _ (some 11) _ = _
    simp only [Act.put, List.setIfInBounds_toArray, List.set_cons_zero, List.set_cons_succ, i64_w, i32_w]
    rfl
   refine one_ (i := 7) (N := some 12) #[true, true, true, true, true, true, true, true, false, false] rfl rfl (one_of HT_.out (by kernel_rfl)) (by decide) (fun K hK => ?_)
   refine goes_ Try.func83 (by kernel_rfl) rfl #[.agg #[.slice A0_0 l0_0.length c0_0, .slice A0_1 l0_1.length c0_1], .slice A1 l1.length c1, .slice Ao21 t657.length co21] (by rfl) rfl rfl (by (try simp only [List.map_toArray, List.map_cons, List.map_nil]); first | done | rfl | (simp only [List.length_drop, List.length_take]; rfl)) ?_
   with_reducible refine (selfstabref23_Config.calls _ _ l0_0 _ _ l0_1 _ _ l1 _ _ t657 false _ ?side1 ?side2 ?side3 ?side4 ?side5 ?side6 ?side7 ?side8 A6.out).mono ?_
   (case side1 => repeat (first | exact (Kd.C_below HR0_0.out HB.out) | (with_reducible refine Kd.C_alloc ?_ _) | (with_reducible refine Kd.C_drewN ?_ _) | (with_reducible refine Kd.C_drew ?_)))
   (case side2 => exact HC0_0.out)
   (case side3 => repeat (first | exact (Kd.C_below HR0_1.out HB.out) | (with_reducible refine Kd.C_alloc ?_ _) | (with_reducible refine Kd.C_drewN ?_ _) | (with_reducible refine Kd.C_drew ?_)))
   (case side4 => exact HC0_1.out)
   (case side5 => repeat (first | exact (Kd.C_below HR1.out HB.out) | (with_reducible refine Kd.C_alloc ?_ _) | (with_reducible refine Kd.C_drewN ?_ _) | (with_reducible refine Kd.C_drew ?_)))
   (case side6 => exact HC1.out)
   (case side7 => repeat (first | exact (Kd.R_reads' HO659.out).2.2 | (with_reducible refine Kd.C_alloc ?_ _) | (with_reducible refine Kd.C_drewN ?_ _) | (with_reducible refine Kd.C_drew ?_)))
   (case side8 => exact (Kd.R_reads' HO659.out).2.1)
   rintro e w22 ⟨rfl, hb⟩
   refine ⟨_, rfl, ?_⟩
   have n0_ := Aside0.mk (Kd.R_below (by (with_reducible repeat (first | apply Kd.R_alloc | apply Kd.R_drewN | apply Kd.R_drew)); exact HO659.out) hb)
   have n1_ := Aside0.mk (blk_below (g := gb655) (o := .cells #[.slice A0_0 l0_0.length c0_0, .slice A0_1 l0_1.length c0_1] 27 (0, 0)) (by (with_reducible repeat (first | refine blk_drewN ?_ _ | refine blk_drew ?_ | refine blk_alloc ?_ _)); exact BK655.out) hb)
   have n2_ := Aside0.mk (below_step (by repeat (first | (with_reducible first | exact HB.out | apply below_alloc | apply pw_below_drewN | apply below_drew1 | refine below_set ?_ GE655.out) | exact HB.out)) hb)
   clear HO659
   clear BK655
   clear HB
   have HO659 := n0_
   have BK655 := n1_
   have HB := n2_
   clear n0_ n1_ n2_
   (try clear hb)
   (try clear hb2)
   (try clear hk)
   (try clear hi)
   refine hK.out _ _ ⟨(blk_cell BK655.out 0).trans rfl, (blk_cell BK655.out 1).trans rfl⟩ (fun hHeld => ?_)
   clear hK K
   refine norm_ (a' := ?_) ?_ ?_
   rotate_left
   ·
    show Act.put _ (some 12) _ = _
    simp only [Act.put, List.setIfInBounds_toArray, List.set_cons_zero, List.set_cons_succ, i64_w, i32_w]
    rfl
   refine pure_ (i := 8) (N := some 13) (v := ?_) (a' := ?_) #[true, true, true, true, true, true, true, true, true, false] rfl rfl (any_of HT_.out (by kernel_rfl)) (fun _ _ _ h => h) (Or.inl ⟨by rfl, ?_⟩) ?_ ?_
   rotate_left
   ·
    intro w'
    go_simp
    with_reducible rfl
   rotate_left
   ·
    simp only [Act.put, List.setIfInBounds_toArray, List.set_cons_zero, List.set_cons_succ, i64_w, i32_w]
    rfl
   refine pure_ (i := 9) (N := some 14) (v := ?_) (a' := ?_) #[true, true, true, true, true, true, true, true, true, true] rfl rfl (any_of HT_.out (by kernel_rfl)) (fun _ _ _ h => h) (Or.inl ⟨by rfl, ?_⟩) ?_ ?_
   rotate_left
   ·
    intro w'
    go_simp
    with_reducible rfl
   rotate_left
   ·
    simp only [Act.put, List.setIfInBounds_toArray, List.set_cons_zero, List.set_cons_succ, i64_w, i32_w]
    rfl
   refine done_ (done_of HT_.out (by kernel_rfl)) ?_
   try go_wp2
   go_ret
   exact ⟨_, by first | rfl | (simp [errW_none, errW_some] <;> rfl) | (simp [*, errW_none, errW_some] <;> rfl), by first | exact Kd.R_nil _ _ _ _ _ | exact Kd.N_nil _ _ _ _ _ | exact Kd.V_nil _ _ _ _ _ | exact Kd.Q_nil _ _ _ _ _ | exact Kd.S_nil _ _ _ _ _, by repeat (first | (with_reducible first | exact HB.out | apply below_alloc | apply pw_below_drewN | apply below_drew1 | refine below_set ?_ GE655.out) | exact HB.out)⟩
 ·
  replace c4 := Bool.eq_false_iff.mpr c4
  subst c4
  have H1 : (some ([] : List Int)) = some r := by rw [if_neg (show ¬ (false = true) by decide)] at H; exact H
  clear H
  have H := H1
  clear H1
  obtain rfl := Option.some.inj H
  go_enter Try.func46, Try.ntmps46
  try go_wp2_with (first | ((with_reducible refine gate_dst (N := 2) rfl ?_); refine box_event ?hg (N := 2) ?hd (cs := #[.slice A0_0 l0_0.length c0_0, .slice A0_1 l0_1.length c0_1]) (t := 27) ?hr ?_; (case hd => rfl); (case hg => rfl); (case hr => first | (go_simp; done) | (go_simp; rfl)); intro gb655 hg w23 hbox hb; have n0_ := Aside0.mk (below_step (by repeat (first | (with_reducible first | exact HB.out | apply below_alloc | apply pw_below_drewN | apply below_drew1) | exact HB.out)) hb); have n1_ := Aside0.mk (hbox); have n2_ := Aside0.mk ((by rw [hg]; exact (below_size (by repeat (first | (with_reducible first | exact HB.out | apply below_alloc | apply pw_below_drewN | apply below_drew1) | exact HB.out))) : w.heap.size ≤ gb655)); have n3_ := Aside0.mk ((by rw [hg]; exact (below_size (by repeat (first | (with_reducible first | exact HB.out | apply below_alloc | apply pw_below_drewN | apply below_drew1) | exact HB.out))) : w.heap.size ≤ gb655)); clear HB; have HB := n0_; have BK655 := n1_; have GW655 := n2_; have GE655 := n3_; clear n0_ n1_ n2_ n3_; clear hb hbox hg))
  have n0_ := Aside0.mk (blk_drew BK655.out)
  have n1_ := Aside0.mk (below_drew1 HB.out)
  clear BK655
  clear HB
  have BK655 := n0_
  have HB := n1_
  clear n0_ n1_
  refine start_ (n := 10) (S := fun w' => w'.cell? ⟨gb655, 0, none⟩ = some (.slice A0_0 l0_0.length c0_0) ∧ w'.cell? ⟨gb655, 1, none⟩ = some (.slice A0_1 l0_1.length c0_1)) (ds := []) #[false, false, false, false, false, false, false, false, false, false] (by kernel_rfl) rfl rfl ⟨(blk_cell BK655.out 0).trans rfl, (blk_cell BK655.out 1).trans rfl⟩ (fun hHeld => ?_); refine with_tabW selfstabref23_Parents.tab1 selfstabref23_Parents.bits1 (fun HT_ HW_ => ?_)
  generalize w23.drew = w24 at BK655 HB hHeld ⊢
  refine take_ (i := 0) (N := some 5) (v := ?_) (a' := ?_) #[true, false, false, false, false, false, false, false, false, false] rfl rfl (take_ofW HT_.out HW_.out (by kernel_rfl)) (fun _ _ _ h => h) (Or.inl ⟨by rfl, ?_⟩) hHeld ?_ ?_
  rotate_left
  ·
   rintro w' ⟨s0, s1⟩
   go_simp
   with_reducible rfl
  rotate_left
  ·
   simp only [Act.put, List.setIfInBounds_toArray, List.set_cons_zero, List.set_cons_succ, i64_w, i32_w]
   rfl
  refine one_ (i := 1) (N := some 6) #[true, true, false, false, false, false, false, false, false, false] rfl rfl (one_of HT_.out (by kernel_rfl)) (by decide) (fun K hK => ?_)
  refine goes_ Try.func39 (by kernel_rfl) rfl #[.agg #[.slice A0_0 l0_0.length c0_0, .slice A0_1 l0_1.length c0_1]] (by rfl) rfl rfl (by (try simp only [List.map_toArray, List.map_cons, List.map_nil]); first | done | rfl | (simp only [List.length_drop, List.length_take]; rfl)) ?_
  with_reducible refine (selfstabref23_Fit.calls k _ _ l0_0 _ _ l0_1 false _ ?side1 ?side2 ?side3 ?side4 A3.out).mono ?_
  (case side1 => repeat (first | exact (Kd.C_below HR0_0.out HB.out) | (with_reducible refine Kd.C_alloc ?_ _) | (with_reducible refine Kd.C_drewN ?_ _) | (with_reducible refine Kd.C_drew ?_)))
  (case side2 => exact HC0_0.out)
  (case side3 => repeat (first | exact (Kd.C_below HR0_1.out HB.out) | (with_reducible refine Kd.C_alloc ?_ _) | (with_reducible refine Kd.C_drewN ?_ _) | (with_reducible refine Kd.C_drew ?_)))
  (case side4 => exact HC0_1.out)
  rintro e w25 ⟨rfl, hb⟩
  refine ⟨_, rfl, ?_⟩
  have n0_ := Aside0.mk (blk_below (g := gb655) (o := .cells #[.slice A0_0 l0_0.length c0_0, .slice A0_1 l0_1.length c0_1] 27 (0, 0)) (by (with_reducible repeat (first | refine blk_drewN ?_ _ | refine blk_drew ?_ | refine blk_alloc ?_ _)); exact BK655.out) hb)
  have n1_ := Aside0.mk (below_step (by repeat (first | (with_reducible first | exact HB.out | apply below_alloc | apply pw_below_drewN | apply below_drew1 | refine below_set ?_ GE655.out) | exact HB.out)) hb)
  clear BK655
  clear HB
  have BK655 := n0_
  have HB := n1_
  clear n0_ n1_
  (try clear hb)
  (try clear hb2)
  (try clear hk)
  (try clear hi)
  refine hK.out _ _ ⟨(blk_cell BK655.out 0).trans rfl, (blk_cell BK655.out 1).trans rfl⟩ (fun hHeld => ?_)
  clear hK K
  refine norm_ (a' := ?_) ?_ ?_
  rotate_left
  ·
   show Act.put _ (some 6) _ = _
   simp only [Act.put, List.setIfInBounds_toArray, List.set_cons_zero, List.set_cons_succ, i64_w, i32_w]
   rfl
  refine pure_ (i := 2) (N := some 7) (v := ?_) (a' := ?_) #[true, true, true, false, false, false, false, false, false, false] rfl rfl (any_of HT_.out (by kernel_rfl)) (fun _ _ _ h => h) (Or.inl ⟨by rfl, ?_⟩) ?_ ?_
  rotate_left
  ·
   intro w'
   go_simp
   with_reducible rfl
  rotate_left
  ·
   simp only [Act.put, List.setIfInBounds_toArray, List.set_cons_zero, List.set_cons_succ, i64_w, i32_w]
   rfl
  refine pure_ (i := 3) (N := some 8) (v := ?_) (a' := ?_) #[true, true, true, true, false, false, false, false, false, false] rfl rfl (any_of HT_.out (by kernel_rfl)) (fun _ _ _ h => h) (Or.inl ⟨by rfl, ?_⟩) ?_ ?_
  rotate_left
  ·
   intro w'
   go_simp
   with_reducible rfl
  rotate_left
  ·
   simp only [Act.put, List.setIfInBounds_toArray, List.set_cons_zero, List.set_cons_succ, i64_w, i32_w]
   rfl
  refine pure_ (i := 4) (N := some 9) (v := undef) (a' := ?_) #[true, true, true, true, true, false, false, false, false, false] rfl rfl (any_of HT_.out (by kernel_rfl)) (fun _ _ _ h => h) (Or.inr ⟨by rfl, rfl⟩) ?_ ?_
  rotate_left
  ·
   simp only [Act.put, List.setIfInBounds_toArray, List.set_cons_zero, List.set_cons_succ, i64_w, i32_w]
   rfl
  refine pure_ (i := 5) (N := some 10) (v := undef) (a' := ?_) #[true, true, true, true, true, true, false, false, false, false] rfl rfl (any_of HT_.out (by kernel_rfl)) (fun _ _ _ h => h) (Or.inr ⟨by rfl, rfl⟩) ?_ ?_
  rotate_left
  ·
   simp only [Act.put, List.setIfInBounds_toArray, List.set_cons_zero, List.set_cons_succ, i64_w, i32_w]
   rfl
  refine pure_ (i := 6) (N := some 11) (v := undef) (a' := ?_) #[true, true, true, true, true, true, true, false, false, false] rfl rfl (any_of HT_.out (by kernel_rfl)) (fun _ _ _ h => h) (Or.inr ⟨by rfl, rfl⟩) ?_ ?_
  rotate_left
  ·
   simp only [Act.put, List.setIfInBounds_toArray, List.set_cons_zero, List.set_cons_succ, i64_w, i32_w]
   rfl
  refine pure_ (i := 7) (N := some 12) (v := undef) (a' := ?_) #[true, true, true, true, true, true, true, true, false, false] rfl rfl (any_of HT_.out (by kernel_rfl)) (fun _ _ _ h => h) (Or.inr ⟨by rfl, rfl⟩) ?_ ?_
  rotate_left
  ·
   simp only [Act.put, List.setIfInBounds_toArray, List.set_cons_zero, List.set_cons_succ, i64_w, i32_w]
   rfl
  refine pure_ (i := 8) (N := some 13) (v := undef) (a' := ?_) #[true, true, true, true, true, true, true, true, true, false] rfl rfl (any_of HT_.out (by kernel_rfl)) (fun _ _ _ h => h) (Or.inr ⟨by rfl, rfl⟩) ?_ ?_
  rotate_left
  ·
   simp only [Act.put, List.setIfInBounds_toArray, List.set_cons_zero, List.set_cons_succ, i64_w, i32_w]
   rfl
  refine pure_ (i := 9) (N := some 14) (v := ?_) (a' := ?_) #[true, true, true, true, true, true, true, true, true, true] rfl rfl (any_of HT_.out (by kernel_rfl)) (fun _ _ _ h => h) (Or.inl ⟨by rfl, ?_⟩) ?_ ?_
  rotate_left
  ·
   intro w'
   go_simp
   with_reducible rfl
  rotate_left
  ·
   simp only [Act.put, List.setIfInBounds_toArray, List.set_cons_zero, List.set_cons_succ, i64_w, i32_w]
   rfl
  refine done_ (done_of HT_.out (by kernel_rfl)) ?_
  try go_wp2
  go_ret
  exact ⟨_, by first | rfl | (simp [errW_none, errW_some] <;> rfl) | (simp [*, errW_none, errW_some] <;> rfl), by first | exact Kd.R_nil _ _ _ _ _ | exact Kd.N_nil _ _ _ _ _ | exact Kd.V_nil _ _ _ _ _ | exact Kd.Q_nil _ _ _ _ _ | exact Kd.S_nil _ _ _ _ _, by repeat (first | (with_reducible first | exact HB.out | apply below_alloc | apply pw_below_drewN | apply below_drew1 | refine below_set ?_ GE655.out) | exact HB.out)⟩
end Go.Proofs.YthapikakneikbaaG
namespace Go.Proofs.YthapikakneikbaaG
open Go.RowKit Go.Proofs.YthapikakneikbaaW.PrintWords Go.Proofs.YthapikakneikbaaW.PrintLast Go.Proofs.YthapikakneikbaaW.PrintMore
attribute [local go_sem] max2_int min2_int max_two min_two max_three min_three max_four min_four   -- for this text's walks alone
set_option linter.unusedVariables false
set_option linter.unusedSimpArgs false
attribute [local go_sem high] eqA44
/-! ### selfstablaw23_BfsJudges: function 6 -/
def selfstablaw23_BfsJudges.f (k : Nat) (l0_0 : List Int) (l0_1 : List (List (S60))) (l1 : List (List Int)) : Option (Bool) := (selfstablaw23_large.f l0_0 l0_1 l1).bind fun t665 => (if t665 = true then ((selfstablaw23_known.f k).bind fun t666 => (some t666)) else ((selfstablaw23_known.f k).bind fun t667 => (if t667 = true then ((bfs_Fit.f k l0_0 l0_1).bind fun t668 => ((selfstabref23_Fit.f k l0_0 l0_1).bind fun t669 => (if (t668 == t669) = true then ((bfs_Legit.f k l0_0 l0_1 l1).bind fun t670 => ((selfstabref23_Legit.f k l0_0 l0_1 l1).bind fun t671 => (if (t670 == t671) = true then ((bfs_Claim.f k l0_0 l0_1).bind fun bt672 => ((selfstabref23_Claim.f k l0_0 l0_1).bind fun bt677 => (if (bt672.1 == bt677.1 && (bt672.2.1 == bt677.2.1 && (bt672.2.2.1 == bt677.2.2.1 && (bt672.2.2.2.1 == bt677.2.2.2.1 && (bt672.2.2.2.2 == bt677.2.2.2.2))))) = true then ((bfs_Parents.f k l0_0 l0_1 l1).bind fun t682 => ((selfstabref23_Parents.f k l0_0 l0_1 l1).bind fun t685 => ((selfstablaw23_sameInts.f k t682 t685).bind fun t688 => (some t688)))) else (none)))) else (none)))) else (none)))) else (none))))
theorem selfstablaw23_BfsJudges.mono : ∀ a0 a1 a2 k, LeO (selfstablaw23_BfsJudges.f k a0 a1 a2) (selfstablaw23_BfsJudges.f (k + 1) a0 a1 a2) := by
 intro a0 a1 a2 k
 unfold selfstablaw23_BfsJudges.f
 repeat' first
   | (with_reducible exact bfs_Claim.mono _ _ _)
   | (with_reducible exact bfs_Fit.mono _ _ _)
   | (with_reducible exact bfs_Legit.mono _ _ _ _)
   | (with_reducible exact bfs_Parents.mono _ _ _ _)
   | (with_reducible exact selfstablaw23_known.mono _)
   | (with_reducible exact selfstablaw23_sameInts.mono _ _ _)
   | (with_reducible exact selfstabref23_Claim.mono _ _ _)
   | (with_reducible exact selfstabref23_Fit.mono _ _ _)
   | (with_reducible exact selfstabref23_Legit.mono _ _ _ _)
   | (with_reducible exact selfstabref23_Parents.mono _ _ _ _)
   | (with_reducible exact LeO.refl _)
   | (with_reducible exact LeO.none _)
   | (with_reducible refine LeO.ite ?_ ?_)
   | (with_reducible refine LeO.bind ?_ (fun _ => ?_))
   | exact bfs_Claim.mono _ _ _
   | exact bfs_Fit.mono _ _ _
   | exact bfs_Legit.mono _ _ _ _
   | exact bfs_Parents.mono _ _ _ _
   | exact selfstablaw23_known.mono _
   | exact selfstablaw23_sameInts.mono _ _ _
   | exact selfstabref23_Claim.mono _ _ _
   | exact selfstabref23_Fit.mono _ _ _
   | exact selfstabref23_Legit.mono _ _ _ _
   | exact selfstabref23_Parents.mono _ _ _ _
   | exact LeO.none _
   | refine LeO.ite ?_ ?_
   | refine LeO.bind ?_ (fun _ => ?_)
def selfstablaw23_BfsJudges.T3 : Bool × List (List Nat × List Nat) := (true, [([], []), ([0, 0], [0]), ([1], [1]), ([2, 1, 1], [1, 2]), ([1], [1]), ([4, 3, 1], [1, 4]), ([3, 5, 1], [1, 3, 5]), ([1, 6], [1, 6]), ([7, 5], [7]), ([8], [8]), ([8], [8]), ([9, 10, 8, 8], [8, 9, 10]), ([8], [8]), ([8], [8]), ([12, 13, 11, 8], [8, 12, 13]), ([11, 14, 8], [8, 11, 14]), ([8, 15], [8, 15]), ([16, 14], [16]), ([17], [17]), ([18, 17, 17], [17, 18]), ([17], [17]), ([20, 19, 17], [17, 20]), ([19, 21, 17], [17, 19, 21]), ([17, 22], [17, 22]), ([23, 21], [23]), ([24], [24]), ([24], [24]), ([25, 26, 24, 24], [24, 25, 26]), ([24], [24]), ([24], [24]), ([28, 29, 27, 24], [24, 28, 29]), ([27, 30, 30, 24], [24, 27, 30]), ([24, 31], [24, 31]), ([32, 31, 0, 1, 2, 3, 4, 5, 6, 7, 8, 9, 10, 11, 12, 13, 14, 15, 16, 17, 18, 19, 20, 21, 22, 23, 24, 25, 26, 27, 28, 29, 30, 31, 32], [32])])
def selfstablaw23_BfsJudges.B3 : List Nat := [0, 1, 3, 7, 3, 31, 63, 127, 255, 511, 511, 2047, 511, 511, 16383, 32767, 65535, 131071, 262143, 524287, 262143, 2097151, 4194303, 8388607, 16777215, 33554431, 33554431, 134217727, 33554431, 33554431, 1073741823, 2147483647, 4294967295, 8589934591]
theorem selfstablaw23_BfsJudges.tab3 : rtab .any (opsOf Try.f6 3) = selfstablaw23_BfsJudges.T3 := by kernel_rfl
theorem selfstablaw23_BfsJudges.bits3 : waitsOk selfstablaw23_BfsJudges.T3.2 selfstablaw23_BfsJudges.B3 = true := by kernel_rfl
set_option maxHeartbeats 8000000 in
set_option maxRecDepth 100000 in
theorem selfstablaw23_BfsJudges.calls (k : Nat) (A0_0 : Option Addr) (c0_0 : Nat) (l0_0 : List Int) (A0_1 : Option Addr) (c0_1 : Nat) (l0_1 : List (List (S60))) (A1 : Option Addr) (c1 : Nat) (l1 : List (List Int)) (r : Bool) (w : World) (hr0_0 : Kd.C (Kd.int .i64) w A0_0 l0_0.length l0_0) (hc0_0 : l0_0.length ≤ c0_0) (hr0_1 : Kd.C (Kd.slice 60 k60) w A0_1 l0_1.length l0_1) (hc0_1 : l0_1.length ≤ c0_1) (hr1 : Kd.C (Kd.slice 3 (Kd.int .i64)) w A1 l1.length l1) (hc1 : l1.length ≤ c1) (h : selfstablaw23_BfsJudges.f k l0_0 l0_1 l1 = some r) :
  Calls Try.prog 6 #[.agg #[.slice A0_0 l0_0.length c0_0, .slice A0_1 l0_1.length c0_1], .slice A1 l1.length c1] w fun e w' => e = .returned (.bool r) ∧ Below w.heap.size w w' := by
 have hu27 := Try.underlying27
 have HR0_0 := Aside0.mk hr0_0
 have HC0_0 := Aside0.mk hc0_0
 clear hr0_0 hc0_0
 have HR0_1 := Aside0.mk hr0_1
 have HC0_1 := Aside0.mk hc0_1
 clear hr0_1 hc0_1
 have HR1 := Aside0.mk hr1
 have HC1 := Aside0.mk hc1
 clear hr1 hc1
 have HB := Aside0.mk (Below.refl w.heap.size w)
 have H : ((selfstablaw23_large.f l0_0 l0_1 l1).bind fun t665 => (if t665 = true then ((selfstablaw23_known.f k).bind fun t666 => (some t666)) else ((selfstablaw23_known.f k).bind fun t667 => (if t667 = true then ((bfs_Fit.f k l0_0 l0_1).bind fun t668 => ((selfstabref23_Fit.f k l0_0 l0_1).bind fun t669 => (if (t668 == t669) = true then ((bfs_Legit.f k l0_0 l0_1 l1).bind fun t670 => ((selfstabref23_Legit.f k l0_0 l0_1 l1).bind fun t671 => (if (t670 == t671) = true then ((bfs_Claim.f k l0_0 l0_1).bind fun bt672 => ((selfstabref23_Claim.f k l0_0 l0_1).bind fun bt677 => (if (bt672.1 == bt677.1 && (bt672.2.1 == bt677.2.1 && (bt672.2.2.1 == bt677.2.2.1 && (bt672.2.2.2.1 == bt677.2.2.2.1 && (bt672.2.2.2.2 == bt677.2.2.2.2))))) = true then ((bfs_Parents.f k l0_0 l0_1 l1).bind fun t682 => ((selfstabref23_Parents.f k l0_0 l0_1 l1).bind fun t685 => ((selfstablaw23_sameInts.f k t682 t685).bind fun t688 => (some t688)))) else (none)))) else (none)))) else (none)))) else (none))))) = some r := h
 clear h
 replace H := Option.bind_eq_some_iff.mp H
 obtain ⟨t665, A30, H⟩ := H
 replace H : (if t665 = true then ((selfstablaw23_known.f k).bind fun t666 => (some t666)) else ((selfstablaw23_known.f k).bind fun t667 => (if t667 = true then ((bfs_Fit.f k l0_0 l0_1).bind fun t668 => ((selfstabref23_Fit.f k l0_0 l0_1).bind fun t669 => (if (t668 == t669) = true then ((bfs_Legit.f k l0_0 l0_1 l1).bind fun t670 => ((selfstabref23_Legit.f k l0_0 l0_1 l1).bind fun t671 => (if (t670 == t671) = true then ((bfs_Claim.f k l0_0 l0_1).bind fun bt672 => ((selfstabref23_Claim.f k l0_0 l0_1).bind fun bt677 => (if (bt672.1 == bt677.1 && (bt672.2.1 == bt677.2.1 && (bt672.2.2.1 == bt677.2.2.1 && (bt672.2.2.2.1 == bt677.2.2.2.1 && (bt672.2.2.2.2 == bt677.2.2.2.2))))) = true then ((bfs_Parents.f k l0_0 l0_1 l1).bind fun t682 => ((selfstabref23_Parents.f k l0_0 l0_1 l1).bind fun t685 => ((selfstablaw23_sameInts.f k t682 t685).bind fun t688 => (some t688)))) else (none)))) else (none)))) else (none)))) else (none)))) = some r := H
 have A3 := Aside0.mk A30
 clear A30
 by_cases c4 : t665 = true
 ·
  subst c4
  have H1 : ((selfstablaw23_known.f k).bind fun t666 => (some t666)) = some r := by rw [if_pos rfl] at H; exact H
  clear H
  have H := H1
  clear H1
  replace H := Option.bind_eq_some_iff.mp H
  obtain ⟨t666, A50, H⟩ := H
  replace H : (some t666) = some r := H
  have A5 := Aside0.mk A50
  clear A50
  obtain rfl := Option.some.inj H
  go_enter Try.func6, Try.ntmps6
  go_wp2_with (first | ((with_reducible refine gate_dst (N := 2) rfl ?_); refine box_event ?hg (N := 2) ?hd (cs := #[.slice A0_0 l0_0.length c0_0, .slice A0_1 l0_1.length c0_1]) (t := 27) ?hr ?_; (case hd => rfl); (case hg => rfl); (case hr => first | (go_simp; done) | (go_simp; rfl)); intro gb664 hg w6 hbox hb; have n0_ := Aside0.mk (below_step (by repeat (first | (with_reducible first | exact HB.out | apply below_alloc | apply pw_below_drewN | apply below_drew1) | exact HB.out)) hb); have n1_ := Aside0.mk (hbox); have n2_ := Aside0.mk ((by rw [hg]; exact (below_size (by repeat (first | (with_reducible first | exact HB.out | apply below_alloc | apply pw_below_drewN | apply below_drew1) | exact HB.out))) : w.heap.size ≤ gb664)); have n3_ := Aside0.mk ((by rw [hg]; exact (below_size (by repeat (first | (with_reducible first | exact HB.out | apply below_alloc | apply pw_below_drewN | apply below_drew1) | exact HB.out))) : w.heap.size ≤ gb664)); clear HB; have HB := n0_; have BK664 := n1_; have GW664 := n2_; have GE664 := n3_; clear n0_ n1_ n2_ n3_; clear hb hbox hg; have hcz7_0 : w6.cell? ⟨gb664, 0, none⟩ = some (.slice A0_0 l0_0.length c0_0) := (blk_cell BK664.out 0).trans rfl; have hcz7_1 : w6.cell? ⟨gb664, 1, none⟩ = some (.slice A0_1 l0_1.length c0_1) := (blk_cell BK664.out 1).trans rfl; have hfz7_0 := blk_frozen BK664.out 0; have hfz7_1 := blk_frozen BK664.out 1) | ((with_reducible refine gate_callee (f := 36) rfl ?_); refine goesL_ (some 7) rfl rfl Try.func36 (by kernel_rfl) rfl #[.agg #[.slice A0_0 l0_0.length c0_0, .slice A0_1 l0_1.length c0_1], .slice A1 l1.length c1] rfl (by (try simp only [List.map_toArray, List.map_cons, List.map_nil]); first | done | rfl | (simp only [List.length_drop, List.length_take]; rfl)) ?_; (with_reducible refine (selfstablaw23_large.calls _ _ l0_0 _ _ l0_1 _ _ l1 true _ ?side1 ?side2 ?side3 ?side4 ?side5 ?side6 A3.out).mono ?_); (case side1 => repeat (first | exact (Kd.C_below HR0_0.out HB.out) | (with_reducible refine Kd.C_alloc ?_ _) | (with_reducible refine Kd.C_drewN ?_ _) | (with_reducible refine Kd.C_drew ?_))); (case side2 => exact HC0_0.out); (case side3 => repeat (first | exact (Kd.C_below HR0_1.out HB.out) | (with_reducible refine Kd.C_alloc ?_ _) | (with_reducible refine Kd.C_drewN ?_ _) | (with_reducible refine Kd.C_drew ?_))); (case side4 => exact HC0_1.out); (case side5 => repeat (first | exact (Kd.C_below HR1.out HB.out) | (with_reducible refine Kd.C_alloc ?_ _) | (with_reducible refine Kd.C_drewN ?_ _) | (with_reducible refine Kd.C_drew ?_))); (case side6 => exact HC1.out); rintro e w8 ⟨rfl, hb⟩; refine ⟨_, rfl, ?_⟩; have n0_ := Aside0.mk (blk_below (g := gb664) (o := .cells #[.slice A0_0 l0_0.length c0_0, .slice A0_1 l0_1.length c0_1] 27 (0, 0)) (by (with_reducible repeat (first | refine blk_drewN ?_ _ | refine blk_drew ?_ | refine blk_alloc ?_ _)); exact BK664.out) hb); have n1_ := Aside0.mk (below_step (by repeat (first | (with_reducible first | exact HB.out | apply below_alloc | apply pw_below_drewN | apply below_drew1 | refine below_set ?_ GE664.out) | exact HB.out)) hb); clear BK664; clear HB; have BK664 := n0_; have HB := n1_; clear n0_ n1_; (try clear hb); (try clear hb2); (try clear hk); (try clear hi)) | ((with_reducible refine gate_callee (f := 37) rfl ?_); refine goesL_ (some 8) rfl rfl Try.func37 (by kernel_rfl) rfl #[] rfl (by (try simp only [List.map_toArray, List.map_cons, List.map_nil]); first | done | rfl | (simp only [List.length_drop, List.length_take]; rfl)) ?_; (with_reducible refine (selfstablaw23_known.calls k  t666 _ A5.out).mono ?_); rintro e w9 ⟨rfl, hb⟩; refine ⟨_, rfl, ?_⟩; have n0_ := Aside0.mk (blk_below (g := gb664) (o := .cells #[.slice A0_0 l0_0.length c0_0, .slice A0_1 l0_1.length c0_1] 27 (0, 0)) (by (with_reducible repeat (first | refine blk_drewN ?_ _ | refine blk_drew ?_ | refine blk_alloc ?_ _)); exact BK664.out) hb); have n1_ := Aside0.mk (below_step (by repeat (first | (with_reducible first | exact HB.out | apply below_alloc | apply pw_below_drewN | apply below_drew1 | refine below_set ?_ GE664.out) | exact HB.out)) hb); clear BK664; clear HB; have BK664 := n0_; have HB := n1_; clear n0_ n1_; (try clear hb); (try clear hb2); (try clear hk); (try clear hi)))
  go_ret
  exact ⟨by first | rfl | (simp [errW_none, errW_some] <;> rfl) | (simp [*, errW_none, errW_some] <;> rfl), by repeat (first | (with_reducible first | exact HB.out | apply below_alloc | apply pw_below_drewN | apply below_drew1 | refine below_set ?_ GE664.out) | exact HB.out)⟩
 ·
  replace c4 := Bool.eq_false_iff.mpr c4
  subst c4
  have H1 : ((selfstablaw23_known.f k).bind fun t667 => (if t667 = true then ((bfs_Fit.f k l0_0 l0_1).bind fun t668 => ((selfstabref23_Fit.f k l0_0 l0_1).bind fun t669 => (if (t668 == t669) = true then ((bfs_Legit.f k l0_0 l0_1 l1).bind fun t670 => ((selfstabref23_Legit.f k l0_0 l0_1 l1).bind fun t671 => (if (t670 == t671) = true then ((bfs_Claim.f k l0_0 l0_1).bind fun bt672 => ((selfstabref23_Claim.f k l0_0 l0_1).bind fun bt677 => (if (bt672.1 == bt677.1 && (bt672.2.1 == bt677.2.1 && (bt672.2.2.1 == bt677.2.2.1 && (bt672.2.2.2.1 == bt677.2.2.2.1 && (bt672.2.2.2.2 == bt677.2.2.2.2))))) = true then ((bfs_Parents.f k l0_0 l0_1 l1).bind fun t682 => ((selfstabref23_Parents.f k l0_0 l0_1 l1).bind fun t685 => ((selfstablaw23_sameInts.f k t682 t685).bind fun t688 => (some t688)))) else (none)))) else (none)))) else (none)))) else (none))) = some r := by rw [if_neg (show ¬ (false = true) by decide)] at H; exact H
  clear H
  have H := H1
  clear H1
  replace H := Option.bind_eq_some_iff.mp H
  obtain ⟨t667, A100, H⟩ := H
  replace H : (if t667 = true then ((bfs_Fit.f k l0_0 l0_1).bind fun t668 => ((selfstabref23_Fit.f k l0_0 l0_1).bind fun t669 => (if (t668 == t669) = true then ((bfs_Legit.f k l0_0 l0_1 l1).bind fun t670 => ((selfstabref23_Legit.f k l0_0 l0_1 l1).bind fun t671 => (if (t670 == t671) = true then ((bfs_Claim.f k l0_0 l0_1).bind fun bt672 => ((selfstabref23_Claim.f k l0_0 l0_1).bind fun bt677 => (if (bt672.1 == bt677.1 && (bt672.2.1 == bt677.2.1 && (bt672.2.2.1 == bt677.2.2.1 && (bt672.2.2.2.1 == bt677.2.2.2.1 && (bt672.2.2.2.2 == bt677.2.2.2.2))))) = true then ((bfs_Parents.f k l0_0 l0_1 l1).bind fun t682 => ((selfstabref23_Parents.f k l0_0 l0_1 l1).bind fun t685 => ((selfstablaw23_sameInts.f k t682 t685).bind fun t688 => (some t688)))) else (none)))) else (none)))) else (none)))) else (none)) = some r := H
  have A10 := Aside0.mk A100
  clear A100
  by_cases c11 : t667 = true
  ·
   subst c11
   have H1 : ((bfs_Fit.f k l0_0 l0_1).bind fun t668 => ((selfstabref23_Fit.f k l0_0 l0_1).bind fun t669 => (if (t668 == t669) = true then ((bfs_Legit.f k l0_0 l0_1 l1).bind fun t670 => ((selfstabref23_Legit.f k l0_0 l0_1 l1).bind fun t671 => (if (t670 == t671) = true then ((bfs_Claim.f k l0_0 l0_1).bind fun bt672 => ((selfstabref23_Claim.f k l0_0 l0_1).bind fun bt677 => (if (bt672.1 == bt677.1 && (bt672.2.1 == bt677.2.1 && (bt672.2.2.1 == bt677.2.2.1 && (bt672.2.2.2.1 == bt677.2.2.2.1 && (bt672.2.2.2.2 == bt677.2.2.2.2))))) = true then ((bfs_Parents.f k l0_0 l0_1 l1).bind fun t682 => ((selfstabref23_Parents.f k l0_0 l0_1 l1).bind fun t685 => ((selfstablaw23_sameInts.f k t682 t685).bind fun t688 => (some t688)))) else (none)))) else (none)))) else (none)))) = some r := by rw [if_pos rfl] at H; exact H
   clear H
   have H := H1
   clear H1
   replace H := Option.bind_eq_some_iff.mp H
   obtain ⟨t668, A120, H⟩ := H
   replace H : ((selfstabref23_Fit.f k l0_0 l0_1).bind fun t669 => (if (t668 == t669) = true then ((bfs_Legit.f k l0_0 l0_1 l1).bind fun t670 => ((selfstabref23_Legit.f k l0_0 l0_1 l1).bind fun t671 => (if (t670 == t671) = true then ((bfs_Claim.f k l0_0 l0_1).bind fun bt672 => ((selfstabref23_Claim.f k l0_0 l0_1).bind fun bt677 => (if (bt672.1 == bt677.1 && (bt672.2.1 == bt677.2.1 && (bt672.2.2.1 == bt677.2.2.1 && (bt672.2.2.2.1 == bt677.2.2.2.1 && (bt672.2.2.2.2 == bt677.2.2.2.2))))) = true then ((bfs_Parents.f k l0_0 l0_1 l1).bind fun t682 => ((selfstabref23_Parents.f k l0_0 l0_1 l1).bind fun t685 => ((selfstablaw23_sameInts.f k t682 t685).bind fun t688 => (some t688)))) else (none)))) else (none)))) else (none))) = some r := H
   have A12 := Aside0.mk A120
   clear A120
   replace H := Option.bind_eq_some_iff.mp H
   obtain ⟨t669, A130, H⟩ := H
   replace H : (if (t668 == t669) = true then ((bfs_Legit.f k l0_0 l0_1 l1).bind fun t670 => ((selfstabref23_Legit.f k l0_0 l0_1 l1).bind fun t671 => (if (t670 == t671) = true then ((bfs_Claim.f k l0_0 l0_1).bind fun bt672 => ((selfstabref23_Claim.f k l0_0 l0_1).bind fun bt677 => (if (bt672.1 == bt677.1 && (bt672.2.1 == bt677.2.1 && (bt672.2.2.1 == bt677.2.2.1 && (bt672.2.2.2.1 == bt677.2.2.2.1 && (bt672.2.2.2.2 == bt677.2.2.2.2))))) = true then ((bfs_Parents.f k l0_0 l0_1 l1).bind fun t682 => ((selfstabref23_Parents.f k l0_0 l0_1 l1).bind fun t685 => ((selfstablaw23_sameInts.f k t682 t685).bind fun t688 => (some t688)))) else (none)))) else (none)))) else (none)) = some r := H
   have A13 := Aside0.mk A130
   clear A130
   by_cases c14 : (t668 == t669) = true
   ·
    rw [if_pos c14] at H
    have c14b0 : (t668 == t669) = true := c14
    (try (have c14b1 : decide (t668 = t669) = true := by simpa using c14))
    (try (have c14b2 : (t668 == t669) = true := by simpa using c14))
    clear c14
    replace H := Option.bind_eq_some_iff.mp H
    obtain ⟨t670, A150, H⟩ := H
    replace H : ((selfstabref23_Legit.f k l0_0 l0_1 l1).bind fun t671 => (if (t670 == t671) = true then ((bfs_Claim.f k l0_0 l0_1).bind fun bt672 => ((selfstabref23_Claim.f k l0_0 l0_1).bind fun bt677 => (if (bt672.1 == bt677.1 && (bt672.2.1 == bt677.2.1 && (bt672.2.2.1 == bt677.2.2.1 && (bt672.2.2.2.1 == bt677.2.2.2.1 && (bt672.2.2.2.2 == bt677.2.2.2.2))))) = true then ((bfs_Parents.f k l0_0 l0_1 l1).bind fun t682 => ((selfstabref23_Parents.f k l0_0 l0_1 l1).bind fun t685 => ((selfstablaw23_sameInts.f k t682 t685).bind fun t688 => (some t688)))) else (none)))) else (none))) = some r := H
    have A15 := Aside0.mk A150
    clear A150
    replace H := Option.bind_eq_some_iff.mp H
    obtain ⟨t671, A160, H⟩ := H
    replace H : (if (t670 == t671) = true then ((bfs_Claim.f k l0_0 l0_1).bind fun bt672 => ((selfstabref23_Claim.f k l0_0 l0_1).bind fun bt677 => (if (bt672.1 == bt677.1 && (bt672.2.1 == bt677.2.1 && (bt672.2.2.1 == bt677.2.2.1 && (bt672.2.2.2.1 == bt677.2.2.2.1 && (bt672.2.2.2.2 == bt677.2.2.2.2))))) = true then ((bfs_Parents.f k l0_0 l0_1 l1).bind fun t682 => ((selfstabref23_Parents.f k l0_0 l0_1 l1).bind fun t685 => ((selfstablaw23_sameInts.f k t682 t685).bind fun t688 => (some t688)))) else (none)))) else (none)) = some r := H
    have A16 := Aside0.mk A160
    clear A160
    by_cases c17 : (t670 == t671) = true
    ·
     rw [if_pos c17] at H
     have c17b0 : (t670 == t671) = true := c17
     (try (have c17b1 : decide (t670 = t671) = true := by simpa using c17))
     (try (have c17b2 : (t670 == t671) = true := by simpa using c17))
     clear c17
     replace H := Option.bind_eq_some_iff.mp H
     obtain ⟨⟨t672, t673, t674, t675, t676⟩, A180, H⟩ := H
     replace H : ((selfstabref23_Claim.f k l0_0 l0_1).bind fun bt677 => (if (t672 == bt677.1 && (t673 == bt677.2.1 && (t674 == bt677.2.2.1 && (t675 == bt677.2.2.2.1 && (t676 == bt677.2.2.2.2))))) = true then ((bfs_Parents.f k l0_0 l0_1 l1).bind fun t682 => ((selfstabref23_Parents.f k l0_0 l0_1 l1).bind fun t685 => ((selfstablaw23_sameInts.f k t682 t685).bind fun t688 => (some t688)))) else (none))) = some r := H
     have A18 := Aside0.mk A180
     clear A180
     replace H := Option.bind_eq_some_iff.mp H
     obtain ⟨⟨t677, t678, t679, t680, t681⟩, A190, H⟩ := H
     replace H : (if (t672 == t677 && (t673 == t678 && (t674 == t679 && (t675 == t680 && (t676 == t681))))) = true then ((bfs_Parents.f k l0_0 l0_1 l1).bind fun t682 => ((selfstabref23_Parents.f k l0_0 l0_1 l1).bind fun t685 => ((selfstablaw23_sameInts.f k t682 t685).bind fun t688 => (some t688)))) else (none)) = some r := H
     have A19 := Aside0.mk A190
     clear A190
     by_cases c20 : (t672 == t677 && (t673 == t678 && (t674 == t679 && (t675 == t680 && (t676 == t681))))) = true
     ·
      rw [if_pos c20] at H
      have c20b0 : (t672 == t677 && (t673 == t678 && (t674 == t679 && (t675 == t680 && (t676 == t681))))) = true := c20
      (try (have c20b1 : decide (t672 = t677 && (t673 == t678 && (t674 == t679 && (t675 == t680 && (t676 == t681))))) = true := by simpa using c20))
      (try (have c20b2 : (t672 == t677 && (t673 == t678 && (t674 == t679 && (t675 == t680 && (t676 == t681))))) = true := by simpa using c20))
      clear c20
      replace H := Option.bind_eq_some_iff.mp H
      obtain ⟨t682, A210, H⟩ := H
      replace H : ((selfstabref23_Parents.f k l0_0 l0_1 l1).bind fun t685 => ((selfstablaw23_sameInts.f k t682 t685).bind fun t688 => (some t688))) = some r := H
      have A21 := Aside0.mk A210
      clear A210
      replace H := Option.bind_eq_some_iff.mp H
      obtain ⟨t685, A220, H⟩ := H
      replace H : ((selfstablaw23_sameInts.f k t682 t685).bind fun t688 => (some t688)) = some r := H
      have A22 := Aside0.mk A220
      clear A220
      replace H := Option.bind_eq_some_iff.mp H
      obtain ⟨t688, A230, H⟩ := H
      replace H : (some t688) = some r := H
      have A23 := Aside0.mk A230
      clear A230
      obtain rfl := Option.some.inj H
      go_enter Try.func6, Try.ntmps6
      try go_wp2_with (first | ((with_reducible refine gate_dst (N := 2) rfl ?_); refine box_event ?hg (N := 2) ?hd (cs := #[.slice A0_0 l0_0.length c0_0, .slice A0_1 l0_1.length c0_1]) (t := 27) ?hr ?_; (case hd => rfl); (case hg => rfl); (case hr => first | (go_simp; done) | (go_simp; rfl)); intro gb664 hg w24 hbox hb; have n0_ := Aside0.mk (below_step (by repeat (first | (with_reducible first | exact HB.out | apply below_alloc | apply pw_below_drewN | apply below_drew1) | exact HB.out)) hb); have n1_ := Aside0.mk (hbox); have n2_ := Aside0.mk ((by rw [hg]; exact (below_size (by repeat (first | (with_reducible first | exact HB.out | apply below_alloc | apply pw_below_drewN | apply below_drew1) | exact HB.out))) : w.heap.size ≤ gb664)); have n3_ := Aside0.mk ((by rw [hg]; exact (below_size (by repeat (first | (with_reducible first | exact HB.out | apply below_alloc | apply pw_below_drewN | apply below_drew1) | exact HB.out))) : w.heap.size ≤ gb664)); clear HB; have HB := n0_; have BK664 := n1_; have GW664 := n2_; have GE664 := n3_; clear n0_ n1_ n2_ n3_; clear hb hbox hg; have hcz25_0 : w24.cell? ⟨gb664, 0, none⟩ = some (.slice A0_0 l0_0.length c0_0) := (blk_cell BK664.out 0).trans rfl; have hcz25_1 : w24.cell? ⟨gb664, 1, none⟩ = some (.slice A0_1 l0_1.length c0_1) := (blk_cell BK664.out 1).trans rfl; have hfz25_0 := blk_frozen BK664.out 0; have hfz25_1 := blk_frozen BK664.out 1) | ((with_reducible refine gate_callee (f := 36) rfl ?_); refine goesL_ (some 7) rfl rfl Try.func36 (by kernel_rfl) rfl #[.agg #[.slice A0_0 l0_0.length c0_0, .slice A0_1 l0_1.length c0_1], .slice A1 l1.length c1] rfl (by (try simp only [List.map_toArray, List.map_cons, List.map_nil]); first | done | rfl | (simp only [List.length_drop, List.length_take]; rfl)) ?_; (with_reducible refine (selfstablaw23_large.calls _ _ l0_0 _ _ l0_1 _ _ l1 false _ ?side1 ?side2 ?side3 ?side4 ?side5 ?side6 A3.out).mono ?_); (case side1 => repeat (first | exact (Kd.C_below HR0_0.out HB.out) | (with_reducible refine Kd.C_alloc ?_ _) | (with_reducible refine Kd.C_drewN ?_ _) | (with_reducible refine Kd.C_drew ?_))); (case side2 => exact HC0_0.out); (case side3 => repeat (first | exact (Kd.C_below HR0_1.out HB.out) | (with_reducible refine Kd.C_alloc ?_ _) | (with_reducible refine Kd.C_drewN ?_ _) | (with_reducible refine Kd.C_drew ?_))); (case side4 => exact HC0_1.out); (case side5 => repeat (first | exact (Kd.C_below HR1.out HB.out) | (with_reducible refine Kd.C_alloc ?_ _) | (with_reducible refine Kd.C_drewN ?_ _) | (with_reducible refine Kd.C_drew ?_))); (case side6 => exact HC1.out); rintro e w26 ⟨rfl, hb⟩; refine ⟨_, rfl, ?_⟩; have n0_ := Aside0.mk (blk_below (g := gb664) (o := .cells #[.slice A0_0 l0_0.length c0_0, .slice A0_1 l0_1.length c0_1] 27 (0, 0)) (by (with_reducible repeat (first | refine blk_drewN ?_ _ | refine blk_drew ?_ | refine blk_alloc ?_ _)); exact BK664.out) hb); have n1_ := Aside0.mk (below_step (by repeat (first | (with_reducible first | exact HB.out | apply below_alloc | apply pw_below_drewN | apply below_drew1 | refine below_set ?_ GE664.out) | exact HB.out)) hb); clear BK664; clear HB; have BK664 := n0_; have HB := n1_; clear n0_ n1_; (try clear hb); (try clear hb2); (try clear hk); (try clear hi)))
      have n0_ := Aside0.mk (blk_drew BK664.out)
      have n1_ := Aside0.mk (below_drew1 HB.out)
      clear BK664
      clear HB
      have BK664 := n0_
      have HB := n1_
      clear n0_ n1_
      refine start_ (n := 34) (S := fun w' => w'.cell? ⟨gb664, 0, none⟩ = some (.slice A0_0 l0_0.length c0_0) ∧ w'.cell? ⟨gb664, 1, none⟩ = some (.slice A0_1 l0_1.length c0_1)) (ds := []) #[false, false, false, false, false, false, false, false, false, false, false, false, false, false, false, false, false, false, false, false, false, false, false, false, false, false, false, false, false, false, false, false, false, false] (by kernel_rfl) rfl rfl ⟨(blk_cell BK664.out 0).trans rfl, (blk_cell BK664.out 1).trans rfl⟩ (fun hHeld => ?_); refine with_tabW selfstablaw23_BfsJudges.tab3 selfstablaw23_BfsJudges.bits3 (fun HT_ HW_ => ?_)
      generalize w26.drew = w27 at BK664 HB hHeld ⊢
      refine one_ (i := 0) (N := some 9) #[true, false, false, false, false, false, false, false, false, false, false, false, false, false, false, false, false, false, false, false, false, false, false, false, false, false, false, false, false, false, false, false, false, false] rfl rfl (one_of HT_.out (by kernel_rfl)) (by decide) (fun K hK => ?_)
      refine goes_ Try.func37 (by kernel_rfl) rfl #[] (by rfl) rfl rfl (by (try simp only [List.map_toArray, List.map_cons, List.map_nil]); first | done | rfl | (simp only [List.length_drop, List.length_take]; rfl)) ?_
      with_reducible refine (selfstablaw23_known.calls k  true _ A10.out).mono ?_
      rintro e w28 ⟨rfl, hb⟩
      refine ⟨_, rfl, ?_⟩
      have n0_ := Aside0.mk (blk_below (g := gb664) (o := .cells #[.slice A0_0 l0_0.length c0_0, .slice A0_1 l0_1.length c0_1] 27 (0, 0)) (by (with_reducible repeat (first | refine blk_drewN ?_ _ | refine blk_drew ?_ | refine blk_alloc ?_ _)); exact BK664.out) hb)
      have n1_ := Aside0.mk (below_step (by repeat (first | (with_reducible first | exact HB.out | apply below_alloc | apply pw_below_drewN | apply below_drew1 | refine below_set ?_ GE664.out) | exact HB.out)) hb)
      clear BK664
      clear HB
      have BK664 := n0_
      have HB := n1_
      clear n0_ n1_
      (try clear hb)
      (try clear hb2)
      (try clear hk)
      (try clear hi)
      refine hK.out _ _ ⟨(blk_cell BK664.out 0).trans rfl, (blk_cell BK664.out 1).trans rfl⟩ (fun hHeld => ?_)
      clear hK K
      refine norm_ (a' := ?_) ?_ ?_
      rotate_left
      ·
       show Act.put _ (some 9) _ = _
       simp only [Act.put, List.setIfInBounds_toArray, List.set_cons_zero, List.set_cons_succ, i64_w, i32_w]
       rfl
      refine pure_ (i := 1) (N := some 10) (v := ?_) (a' := ?_) #[true, true, false, false, false, false, false, false, false, false, false, false, false, false, false, false, false, false, false, false, false, false, false, false, false, false, false, false, false, false, false, false, false, false] rfl rfl (any_of HT_.out (by kernel_rfl)) (fun _ _ _ h => h) (Or.inl ⟨by rfl, ?_⟩) ?_ ?_
      rotate_left
      ·
       intro w'
       go_simp
       with_reducible rfl
      rotate_left
      ·
       simp only [Act.put, List.setIfInBounds_toArray, List.set_cons_zero, List.set_cons_succ, i64_w, i32_w]
       rfl
      refine take_ (i := 2) (N := some 11) (v := ?_) (a' := ?_) #[true, true, true, false, false, false, false, false, false, false, false, false, false, false, false, false, false, false, false, false, false, false, false, false, false, false, false, false, false, false, false, false, false, false] rfl rfl (take_ofW HT_.out HW_.out (by kernel_rfl)) (fun _ _ _ h => h) (Or.inl ⟨by rfl, ?_⟩) hHeld ?_ ?_
      rotate_left
      ·
       rintro w' ⟨s0, s1⟩
       go_simp
       with_reducible rfl
      rotate_left
      ·
       simp only [Act.put, List.setIfInBounds_toArray, List.set_cons_zero, List.set_cons_succ, i64_w, i32_w]
       rfl
      refine take_ (i := 4) (N := some 13) (v := ?_) (a' := ?_) #[true, true, true, false, true, false, false, false, false, false, false, false, false, false, false, false, false, false, false, false, false, false, false, false, false, false, false, false, false, false, false, false, false, false] rfl rfl (take_ofW HT_.out HW_.out (by kernel_rfl)) (fun _ _ _ h => h) (Or.inl ⟨by rfl, ?_⟩) hHeld ?_ ?_
      rotate_left
      ·
       rintro w' ⟨s0, s1⟩
       go_simp
       with_reducible rfl
      rotate_left
      ·
       simp only [Act.put, List.setIfInBounds_toArray, List.set_cons_zero, List.set_cons_succ, i64_w, i32_w]
       rfl
      refine one_ (i := 3) (N := some 12) #[true, true, true, true, true, false, false, false, false, false, false, false, false, false, false, false, false, false, false, false, false, false, false, false, false, false, false, false, false, false, false, false, false, false] rfl rfl (one_of HT_.out (by kernel_rfl)) (by decide) (fun K hK => ?_)
      refine goes_ Try.func38 (by kernel_rfl) rfl #[.agg #[.slice A0_0 l0_0.length c0_0, .slice A0_1 l0_1.length c0_1]] (by rfl) rfl rfl (by (try simp only [List.map_toArray, List.map_cons, List.map_nil]); first | done | rfl | (simp only [List.length_drop, List.length_take]; rfl)) ?_
      with_reducible refine (bfs_Fit.calls k _ _ l0_0 _ _ l0_1 t668 _ ?side1 ?side2 ?side3 ?side4 A12.out).mono ?_
      (case side1 => repeat (first | exact (Kd.C_below HR0_0.out HB.out) | (with_reducible refine Kd.C_alloc ?_ _) | (with_reducible refine Kd.C_drewN ?_ _) | (with_reducible refine Kd.C_drew ?_)))
      (case side2 => exact HC0_0.out)
      (case side3 => repeat (first | exact (Kd.C_below HR0_1.out HB.out) | (with_reducible refine Kd.C_alloc ?_ _) | (with_reducible refine Kd.C_drewN ?_ _) | (with_reducible refine Kd.C_drew ?_)))
      (case side4 => exact HC0_1.out)
      rintro e w29 ⟨rfl, hb⟩
      refine ⟨_, rfl, ?_⟩
      have n0_ := Aside0.mk (blk_below (g := gb664) (o := .cells #[.slice A0_0 l0_0.length c0_0, .slice A0_1 l0_1.length c0_1] 27 (0, 0)) (by (with_reducible repeat (first | refine blk_drewN ?_ _ | refine blk_drew ?_ | refine blk_alloc ?_ _)); exact BK664.out) hb)
      have n1_ := Aside0.mk (below_step (by repeat (first | (with_reducible first | exact HB.out | apply below_alloc | apply pw_below_drewN | apply below_drew1 | refine below_set ?_ GE664.out) | exact HB.out)) hb)
      clear BK664
      clear HB
      have BK664 := n0_
      have HB := n1_
      clear n0_ n1_
      (try clear hb)
      (try clear hb2)
      (try clear hk)
      (try clear hi)
      refine hK.out _ _ ⟨(blk_cell BK664.out 0).trans rfl, (blk_cell BK664.out 1).trans rfl⟩ (fun hHeld => ?_)
      clear hK K
      refine norm_ (a' := ?_) ?_ ?_
      rotate_left
      ·
       show Act.put _ (some 12) _ = _
       simp only [Act.put, List.setIfInBounds_toArray, List.set_cons_zero, List.set_cons_succ, i64_w, i32_w]
       rfl
      refine one_ (i := 5) (N := some 14) #[true, true, true, true, true, true, false, false, false, false, false, false, false, false, false, false, false, false, false, false, false, false, false, false, false, false, false, false, false, false, false, false, false, false] rfl rfl (one_of HT_.out (by kernel_rfl)) (by decide) (fun K hK => ?_)
      refine goes_ Try.func39 (by kernel_rfl) rfl #[.agg #[.slice A0_0 l0_0.length c0_0, .slice A0_1 l0_1.length c0_1]] (by rfl) rfl rfl (by (try simp only [List.map_toArray, List.map_cons, List.map_nil]); first | done | rfl | (simp only [List.length_drop, List.length_take]; rfl)) ?_
      with_reducible refine (selfstabref23_Fit.calls k _ _ l0_0 _ _ l0_1 t669 _ ?side1 ?side2 ?side3 ?side4 A13.out).mono ?_
      (case side1 => repeat (first | exact (Kd.C_below HR0_0.out HB.out) | (with_reducible refine Kd.C_alloc ?_ _) | (with_reducible refine Kd.C_drewN ?_ _) | (with_reducible refine Kd.C_drew ?_)))
      (case side2 => exact HC0_0.out)
      (case side3 => repeat (first | exact (Kd.C_below HR0_1.out HB.out) | (with_reducible refine Kd.C_alloc ?_ _) | (with_reducible refine Kd.C_drewN ?_ _) | (with_reducible refine Kd.C_drew ?_)))
      (case side4 => exact HC0_1.out)
      rintro e w30 ⟨rfl, hb⟩
      refine ⟨_, rfl, ?_⟩
      have n0_ := Aside0.mk (blk_below (g := gb664) (o := .cells #[.slice A0_0 l0_0.length c0_0, .slice A0_1 l0_1.length c0_1] 27 (0, 0)) (by (with_reducible repeat (first | refine blk_drewN ?_ _ | refine blk_drew ?_ | refine blk_alloc ?_ _)); exact BK664.out) hb)
      have n1_ := Aside0.mk (below_step (by repeat (first | (with_reducible first | exact HB.out | apply below_alloc | apply pw_below_drewN | apply below_drew1 | refine below_set ?_ GE664.out) | exact HB.out)) hb)
      clear BK664
      clear HB
      have BK664 := n0_
      have HB := n1_
      clear n0_ n1_
      (try clear hb)
      (try clear hb2)
      (try clear hk)
      (try clear hi)
      refine hK.out _ _ ⟨(blk_cell BK664.out 0).trans rfl, (blk_cell BK664.out 1).trans rfl⟩ (fun hHeld => ?_)
      clear hK K
      refine norm_ (a' := ?_) ?_ ?_
      rotate_left
      ·
       show Act.put _ (some 14) _ = _
       simp only [Act.put, List.setIfInBounds_toArray, List.set_cons_zero, List.set_cons_succ, i64_w, i32_w]
       rfl
      refine pure_ (i := 6) (N := some 15) (v := ?_) (a' := ?_) #[true, true, true, true, true, true, true, false, false, false, false, false, false, false, false, false, false, false, false, false, false, false, false, false, false, false, false, false, false, false, false, false, false, false] rfl rfl (any_of HT_.out (by kernel_rfl)) (fun _ _ _ h => h) (Or.inl ⟨by rfl, ?_⟩) ?_ ?_
      rotate_left
      ·
       intro w'
       go_simp
       with_reducible rfl
      rotate_left
      ·
       simp only [Act.put, List.setIfInBounds_toArray, List.set_cons_zero, List.set_cons_succ, i64_w, i32_w]
       rfl
      refine pure_ (i := 7) (N := some 16) (v := ?_) (a' := ?_) #[true, true, true, true, true, true, true, true, false, false, false, false, false, false, false, false, false, false, false, false, false, false, false, false, false, false, false, false, false, false, false, false, false, false] rfl rfl (any_of HT_.out (by kernel_rfl)) (fun _ _ _ h => h) (Or.inl ⟨by rfl, ?_⟩) ?_ ?_
      rotate_left
      ·
       intro w'
       go_simp
       with_reducible rfl
      rotate_left
      ·
       simp only [Act.put, List.setIfInBounds_toArray, List.set_cons_zero, List.set_cons_succ, i64_w, i32_w]
       rfl
      refine pure_ (i := 8) (N := some 17) (v := ?_) (a' := ?_) #[true, true, true, true, true, true, true, true, true, false, false, false, false, false, false, false, false, false, false, false, false, false, false, false, false, false, false, false, false, false, false, false, false, false] rfl rfl (any_of HT_.out (by kernel_rfl)) (fun _ _ _ h => h) (Or.inl ⟨by rfl, ?_⟩) ?_ ?_
      rotate_left
      ·
       intro w'
       go_simp
       with_reducible rfl
      rotate_left
      ·
       simp only [Act.put, List.setIfInBounds_toArray, List.set_cons_zero, List.set_cons_succ, i64_w, i32_w]
       rfl
      refine pure_ (i := 10) (N := some 19) (v := ?_) (a' := ?_) #[true, true, true, true, true, true, true, true, true, false, true, false, false, false, false, false, false, false, false, false, false, false, false, false, false, false, false, false, false, false, false, false, false, false] rfl rfl (any_of HT_.out (by kernel_rfl)) (fun _ _ _ h => h) (Or.inl ⟨by rfl, ?_⟩) ?_ ?_
      rotate_left
      ·
       intro w'
       go_simp
       with_reducible rfl
      rotate_left
      ·
       simp only [Act.put, List.setIfInBounds_toArray, List.set_cons_zero, List.set_cons_succ, i64_w, i32_w]
       rfl
      refine pure_ (i := 13) (N := some 22) (v := ?_) (a' := ?_) #[true, true, true, true, true, true, true, true, true, false, true, false, false, true, false, false, false, false, false, false, false, false, false, false, false, false, false, false, false, false, false, false, false, false] rfl rfl (any_of HT_.out (by kernel_rfl)) (fun _ _ _ h => h) (Or.inl ⟨by rfl, ?_⟩) ?_ ?_
      rotate_left
      ·
       intro w'
       go_simp
       with_reducible rfl
      rotate_left
      ·
       simp only [Act.put, List.setIfInBounds_toArray, List.set_cons_zero, List.set_cons_succ, i64_w, i32_w]
       rfl
      refine take_ (i := 9) (N := some 18) (v := ?_) (a' := ?_) #[true, true, true, true, true, true, true, true, true, true, true, false, false, true, false, false, false, false, false, false, false, false, false, false, false, false, false, false, false, false, false, false, false, false] rfl rfl (take_ofW HT_.out HW_.out (by kernel_rfl)) (fun _ _ _ h => h) (Or.inl ⟨by rfl, ?_⟩) hHeld ?_ ?_
      rotate_left
      ·
       rintro w' ⟨s0, s1⟩
       go_simp
       with_reducible rfl
      rotate_left
      ·
       simp only [Act.put, List.setIfInBounds_toArray, List.set_cons_zero, List.set_cons_succ, i64_w, i32_w]
       rfl
      refine take_ (i := 12) (N := some 21) (v := ?_) (a' := ?_) #[true, true, true, true, true, true, true, true, true, true, true, false, true, true, false, false, false, false, false, false, false, false, false, false, false, false, false, false, false, false, false, false, false, false] rfl rfl (take_ofW HT_.out HW_.out (by kernel_rfl)) (fun _ _ _ h => h) (Or.inl ⟨by rfl, ?_⟩) hHeld ?_ ?_
      rotate_left
      ·
       rintro w' ⟨s0, s1⟩
       go_simp
       with_reducible rfl
      rotate_left
      ·
       simp only [Act.put, List.setIfInBounds_toArray, List.set_cons_zero, List.set_cons_succ, i64_w, i32_w]
       rfl
      refine one_ (i := 11) (N := some 20) #[true, true, true, true, true, true, true, true, true, true, true, true, true, true, false, false, false, false, false, false, false, false, false, false, false, false, false, false, false, false, false, false, false, false] rfl rfl (one_of HT_.out (by kernel_rfl)) (by decide) (fun K hK => ?_)
      refine goes_ Try.func40 (by kernel_rfl) rfl #[.agg #[.slice A0_0 l0_0.length c0_0, .slice A0_1 l0_1.length c0_1], .slice A1 l1.length c1] (by rfl) rfl rfl (by (try simp only [List.map_toArray, List.map_cons, List.map_nil]); first | done | rfl | (simp only [List.length_drop, List.length_take]; rfl)) ?_
      with_reducible refine (bfs_Legit.calls k _ _ l0_0 _ _ l0_1 _ _ l1 t670 _ ?side1 ?side2 ?side3 ?side4 ?side5 ?side6 A15.out).mono ?_
      (case side1 => repeat (first | exact (Kd.C_below HR0_0.out HB.out) | (with_reducible refine Kd.C_alloc ?_ _) | (with_reducible refine Kd.C_drewN ?_ _) | (with_reducible refine Kd.C_drew ?_)))
      (case side2 => exact HC0_0.out)
      (case side3 => repeat (first | exact (Kd.C_below HR0_1.out HB.out) | (with_reducible refine Kd.C_alloc ?_ _) | (with_reducible refine Kd.C_drewN ?_ _) | (with_reducible refine Kd.C_drew ?_)))
      (case side4 => exact HC0_1.out)
      (case side5 => repeat (first | exact (Kd.C_below HR1.out HB.out) | (with_reducible refine Kd.C_alloc ?_ _) | (with_reducible refine Kd.C_drewN ?_ _) | (with_reducible refine Kd.C_drew ?_)))
      (case side6 => exact HC1.out)
      rintro e w31 ⟨rfl, hb⟩
      refine ⟨_, rfl, ?_⟩
      have n0_ := Aside0.mk (blk_below (g := gb664) (o := .cells #[.slice A0_0 l0_0.length c0_0, .slice A0_1 l0_1.length c0_1] 27 (0, 0)) (by (with_reducible repeat (first | refine blk_drewN ?_ _ | refine blk_drew ?_ | refine blk_alloc ?_ _)); exact BK664.out) hb)
      have n1_ := Aside0.mk (below_step (by repeat (first | (with_reducible first | exact HB.out | apply below_alloc | apply pw_below_drewN | apply below_drew1 | refine below_set ?_ GE664.out) | exact HB.out)) hb)
      clear BK664
      clear HB
      have BK664 := n0_
      have HB := n1_
      clear n0_ n1_
      (try clear hb)
      (try clear hb2)
      (try clear hk)
      (try clear hi)
      refine hK.out _ _ ⟨(blk_cell BK664.out 0).trans rfl, (blk_cell BK664.out 1).trans rfl⟩ (fun hHeld => ?_)
      clear hK K
      refine norm_ (a' := ?_) ?_ ?_
      rotate_left
      ·
       show Act.put _ (some 20) _ = _
       simp only [Act.put, List.setIfInBounds_toArray, List.set_cons_zero, List.set_cons_succ, i64_w, i32_w]
       rfl
      refine one_ (i := 14) (N := some 23) #[true, true, true, true, true, true, true, true, true, true, true, true, true, true, true, false, false, false, false, false, false, false, false, false, false, false, false, false, false, false, false, false, false, false] rfl rfl (one_of HT_.out (by kernel_rfl)) (by decide) (fun K hK => ?_)
      refine goes_ Try.func41 (by kernel_rfl) rfl #[.agg #[.slice A0_0 l0_0.length c0_0, .slice A0_1 l0_1.length c0_1], .slice A1 l1.length c1] (by rfl) rfl rfl (by (try simp only [List.map_toArray, List.map_cons, List.map_nil]); first | done | rfl | (simp only [List.length_drop, List.length_take]; rfl)) ?_
      with_reducible refine (selfstabref23_Legit.calls k _ _ l0_0 _ _ l0_1 _ _ l1 t671 _ ?side1 ?side2 ?side3 ?side4 ?side5 ?side6 A16.out).mono ?_
      (case side1 => repeat (first | exact (Kd.C_below HR0_0.out HB.out) | (with_reducible refine Kd.C_alloc ?_ _) | (with_reducible refine Kd.C_drewN ?_ _) | (with_reducible refine Kd.C_drew ?_)))
      (case side2 => exact HC0_0.out)
      (case side3 => repeat (first | exact (Kd.C_below HR0_1.out HB.out) | (with_reducible refine Kd.C_alloc ?_ _) | (with_reducible refine Kd.C_drewN ?_ _) | (with_reducible refine Kd.C_drew ?_)))
      (case side4 => exact HC0_1.out)
      (case side5 => repeat (first | exact (Kd.C_below HR1.out HB.out) | (with_reducible refine Kd.C_alloc ?_ _) | (with_reducible refine Kd.C_drewN ?_ _) | (with_reducible refine Kd.C_drew ?_)))
      (case side6 => exact HC1.out)
      rintro e w32 ⟨rfl, hb⟩
      refine ⟨_, rfl, ?_⟩
      have n0_ := Aside0.mk (blk_below (g := gb664) (o := .cells #[.slice A0_0 l0_0.length c0_0, .slice A0_1 l0_1.length c0_1] 27 (0, 0)) (by (with_reducible repeat (first | refine blk_drewN ?_ _ | refine blk_drew ?_ | refine blk_alloc ?_ _)); exact BK664.out) hb)
      have n1_ := Aside0.mk (below_step (by repeat (first | (with_reducible first | exact HB.out | apply below_alloc | apply pw_below_drewN | apply below_drew1 | refine below_set ?_ GE664.out) | exact HB.out)) hb)
      clear BK664
      clear HB
      have BK664 := n0_
      have HB := n1_
      clear n0_ n1_
      (try clear hb)
      (try clear hb2)
      (try clear hk)
      (try clear hi)
      refine hK.out _ _ ⟨(blk_cell BK664.out 0).trans rfl, (blk_cell BK664.out 1).trans rfl⟩ (fun hHeld => ?_)
      clear hK K
      refine norm_ (a' := ?_) ?_ ?_
      rotate_left
      ·
       show Act.put _ (some 23) _ = _
       simp only [Act.put, List.setIfInBounds_toArray, List.set_cons_zero, List.set_cons_succ, i64_w, i32_w]
       rfl
      refine pure_ (i := 15) (N := some 24) (v := ?_) (a' := ?_) #[true, true, true, true, true, true, true, true, true, true, true, true, true, true, true, true, false, false, false, false, false, false, false, false, false, false, false, false, false, false, false, false, false, false] rfl rfl (any_of HT_.out (by kernel_rfl)) (fun _ _ _ h => h) (Or.inl ⟨by rfl, ?_⟩) ?_ ?_
      rotate_left
      ·
       intro w'
       go_simp
       with_reducible rfl
      rotate_left
      ·
       simp only [Act.put, List.setIfInBounds_toArray, List.set_cons_zero, List.set_cons_succ, i64_w, i32_w]
       rfl
      refine pure_ (i := 16) (N := some 25) (v := ?_) (a' := ?_) #[true, true, true, true, true, true, true, true, true, true, true, true, true, true, true, true, true, false, false, false, false, false, false, false, false, false, false, false, false, false, false, false, false, false] rfl rfl (any_of HT_.out (by kernel_rfl)) (fun _ _ _ h => h) (Or.inl ⟨by rfl, ?_⟩) ?_ ?_
      rotate_left
      ·
       intro w'
       go_simp
       with_reducible rfl
      rotate_left
      ·
       simp only [Act.put, List.setIfInBounds_toArray, List.set_cons_zero, List.set_cons_succ, i64_w, i32_w]
       rfl
      refine pure_ (i := 17) (N := some 26) (v := ?_) (a' := ?_) #[true, true, true, true, true, true, true, true, true, true, true, true, true, true, true, true, true, true, false, false, false, false, false, false, false, false, false, false, false, false, false, false, false, false] rfl rfl (any_of HT_.out (by kernel_rfl)) (fun _ _ _ h => h) (Or.inl ⟨by rfl, ?_⟩) ?_ ?_
      rotate_left
      ·
       intro w'
       go_simp
       with_reducible rfl
      rotate_left
      ·
       simp only [Act.put, List.setIfInBounds_toArray, List.set_cons_zero, List.set_cons_succ, i64_w, i32_w]
       rfl
      refine take_ (i := 18) (N := some 27) (v := ?_) (a' := ?_) #[true, true, true, true, true, true, true, true, true, true, true, true, true, true, true, true, true, true, true, false, false, false, false, false, false, false, false, false, false, false, false, false, false, false] rfl rfl (take_ofW HT_.out HW_.out (by kernel_rfl)) (fun _ _ _ h => h) (Or.inl ⟨by rfl, ?_⟩) hHeld ?_ ?_
      rotate_left
      ·
       rintro w' ⟨s0, s1⟩
       go_simp
       with_reducible rfl
      rotate_left
      ·
       simp only [Act.put, List.setIfInBounds_toArray, List.set_cons_zero, List.set_cons_succ, i64_w, i32_w]
       rfl
      refine take_ (i := 20) (N := some 29) (v := ?_) (a' := ?_) #[true, true, true, true, true, true, true, true, true, true, true, true, true, true, true, true, true, true, true, false, true, false, false, false, false, false, false, false, false, false, false, false, false, false] rfl rfl (take_ofW HT_.out HW_.out (by kernel_rfl)) (fun _ _ _ h => h) (Or.inl ⟨by rfl, ?_⟩) hHeld ?_ ?_
      rotate_left
      ·
       rintro w' ⟨s0, s1⟩
       go_simp
       with_reducible rfl
      rotate_left
      ·
       simp only [Act.put, List.setIfInBounds_toArray, List.set_cons_zero, List.set_cons_succ, i64_w, i32_w]
       rfl
      refine one_ (i := 19) (N := some 28) #[true, true, true, true, true, true, true, true, true, true, true, true, true, true, true, true, true, true, true, true, true, false, false, false, false, false, false, false, false, false, false, false, false, false] rfl rfl (one_of HT_.out (by kernel_rfl)) (by decide) (fun K hK => ?_)
      refine goes_ Try.func42 (by kernel_rfl) rfl #[.agg #[.slice A0_0 l0_0.length c0_0, .slice A0_1 l0_1.length c0_1]] (by rfl) rfl rfl (by (try simp only [List.map_toArray, List.map_cons, List.map_nil]); first | done | rfl | (simp only [List.length_drop, List.length_take]; rfl)) ?_
      with_reducible refine (bfs_Claim.calls k _ _ l0_0 _ _ l0_1 t672 t673 t674 t675 t676 _ ?side1 ?side2 ?side3 ?side4 A18.out).mono ?_
      (case side1 => repeat (first | exact (Kd.C_below HR0_0.out HB.out) | (with_reducible refine Kd.C_alloc ?_ _) | (with_reducible refine Kd.C_drewN ?_ _) | (with_reducible refine Kd.C_drew ?_)))
      (case side2 => exact HC0_0.out)
      (case side3 => repeat (first | exact (Kd.C_below HR0_1.out HB.out) | (with_reducible refine Kd.C_alloc ?_ _) | (with_reducible refine Kd.C_drewN ?_ _) | (with_reducible refine Kd.C_drew ?_)))
      (case side4 => exact HC0_1.out)
      rintro e w33 ⟨rfl, hb⟩
      refine ⟨_, rfl, ?_⟩
      have n0_ := Aside0.mk (blk_below (g := gb664) (o := .cells #[.slice A0_0 l0_0.length c0_0, .slice A0_1 l0_1.length c0_1] 27 (0, 0)) (by (with_reducible repeat (first | refine blk_drewN ?_ _ | refine blk_drew ?_ | refine blk_alloc ?_ _)); exact BK664.out) hb)
      have n1_ := Aside0.mk (below_step (by repeat (first | (with_reducible first | exact HB.out | apply below_alloc | apply pw_below_drewN | apply below_drew1 | refine below_set ?_ GE664.out) | exact HB.out)) hb)
      clear BK664
      clear HB
      have BK664 := n0_
      have HB := n1_
      clear n0_ n1_
      (try clear hb)
      (try clear hb2)
      (try clear hk)
      (try clear hi)
      refine hK.out _ _ ⟨(blk_cell BK664.out 0).trans rfl, (blk_cell BK664.out 1).trans rfl⟩ (fun hHeld => ?_)
      clear hK K
      refine norm_ (a' := ?_) ?_ ?_
      rotate_left
      ·
       show Act.put _ (some 28) _ = _
       simp only [Act.put, List.setIfInBounds_toArray, List.set_cons_zero, List.set_cons_succ, i64_w, i32_w]
       rfl
      refine one_ (i := 21) (N := some 30) #[true, true, true, true, true, true, true, true, true, true, true, true, true, true, true, true, true, true, true, true, true, true, false, false, false, false, false, false, false, false, false, false, false, false] rfl rfl (one_of HT_.out (by kernel_rfl)) (by decide) (fun K hK => ?_)
      refine goes_ Try.func43 (by kernel_rfl) rfl #[.agg #[.slice A0_0 l0_0.length c0_0, .slice A0_1 l0_1.length c0_1]] (by rfl) rfl rfl (by (try simp only [List.map_toArray, List.map_cons, List.map_nil]); first | done | rfl | (simp only [List.length_drop, List.length_take]; rfl)) ?_
      with_reducible refine (selfstabref23_Claim.calls k _ _ l0_0 _ _ l0_1 t677 t678 t679 t680 t681 _ ?side1 ?side2 ?side3 ?side4 A19.out).mono ?_
      (case side1 => repeat (first | exact (Kd.C_below HR0_0.out HB.out) | (with_reducible refine Kd.C_alloc ?_ _) | (with_reducible refine Kd.C_drewN ?_ _) | (with_reducible refine Kd.C_drew ?_)))
      (case side2 => exact HC0_0.out)
      (case side3 => repeat (first | exact (Kd.C_below HR0_1.out HB.out) | (with_reducible refine Kd.C_alloc ?_ _) | (with_reducible refine Kd.C_drewN ?_ _) | (with_reducible refine Kd.C_drew ?_)))
      (case side4 => exact HC0_1.out)
      rintro e w34 ⟨rfl, hb⟩
      refine ⟨_, rfl, ?_⟩
      have n0_ := Aside0.mk (blk_below (g := gb664) (o := .cells #[.slice A0_0 l0_0.length c0_0, .slice A0_1 l0_1.length c0_1] 27 (0, 0)) (by (with_reducible repeat (first | refine blk_drewN ?_ _ | refine blk_drew ?_ | refine blk_alloc ?_ _)); exact BK664.out) hb)
      have n1_ := Aside0.mk (below_step (by repeat (first | (with_reducible first | exact HB.out | apply below_alloc | apply pw_below_drewN | apply below_drew1 | refine below_set ?_ GE664.out) | exact HB.out)) hb)
      clear BK664
      clear HB
      have BK664 := n0_
      have HB := n1_
      clear n0_ n1_
      (try clear hb)
      (try clear hb2)
      (try clear hk)
      (try clear hi)
      refine hK.out _ _ ⟨(blk_cell BK664.out 0).trans rfl, (blk_cell BK664.out 1).trans rfl⟩ (fun hHeld => ?_)
      clear hK K
      refine norm_ (a' := ?_) ?_ ?_
      rotate_left
      ·
       show Act.put _ (some 30) _ = _
       simp only [Act.put, List.setIfInBounds_toArray, List.set_cons_zero, List.set_cons_succ, i64_w, i32_w]
       rfl
      refine pure_ (i := 22) (N := some 31) (v := ?_) (a' := ?_) #[true, true, true, true, true, true, true, true, true, true, true, true, true, true, true, true, true, true, true, true, true, true, true, false, false, false, false, false, false, false, false, false, false, false] rfl rfl (any_of HT_.out (by kernel_rfl)) (fun _ _ _ h => h) (Or.inl ⟨by rfl, ?_⟩) ?_ ?_
      rotate_left
      ·
       intro w'
       go_simp
       with_reducible rfl
      rotate_left
      ·
       simp only [Act.put, List.setIfInBounds_toArray, List.set_cons_zero, List.set_cons_succ, i64_w, i32_w]
       rfl
      refine pure_ (i := 23) (N := some 32) (v := ?_) (a' := ?_) #[true, true, true, true, true, true, true, true, true, true, true, true, true, true, true, true, true, true, true, true, true, true, true, true, false, false, false, false, false, false, false, false, false, false] rfl rfl (any_of HT_.out (by kernel_rfl)) (fun _ _ _ h => h) (Or.inl ⟨by rfl, ?_⟩) ?_ ?_
      rotate_left
      ·
       intro w'
       go_simp
       with_reducible rfl
      rotate_left
      ·
       simp only [Act.put, List.setIfInBounds_toArray, List.set_cons_zero, List.set_cons_succ, i64_w, i32_w]
       rfl
      refine pure_ (i := 24) (N := some 33) (v := ?_) (a' := ?_) #[true, true, true, true, true, true, true, true, true, true, true, true, true, true, true, true, true, true, true, true, true, true, true, true, true, false, false, false, false, false, false, false, false, false] rfl rfl (any_of HT_.out (by kernel_rfl)) (fun _ _ _ h => h) (Or.inl ⟨by rfl, ?_⟩) ?_ ?_
      rotate_left
      ·
       intro w'
       go_simp
       with_reducible rfl
      rotate_left
      ·
       simp only [Act.put, List.setIfInBounds_toArray, List.set_cons_zero, List.set_cons_succ, i64_w, i32_w]
       rfl
      refine pure_ (i := 26) (N := some 35) (v := ?_) (a' := ?_) #[true, true, true, true, true, true, true, true, true, true, true, true, true, true, true, true, true, true, true, true, true, true, true, true, true, false, true, false, false, false, false, false, false, false] rfl rfl (any_of HT_.out (by kernel_rfl)) (fun _ _ _ h => h) (Or.inl ⟨by rfl, ?_⟩) ?_ ?_
      rotate_left
      ·
       intro w'
       go_simp
       with_reducible rfl
      rotate_left
      ·
       simp only [Act.put, List.setIfInBounds_toArray, List.set_cons_zero, List.set_cons_succ, i64_w, i32_w]
       rfl
      refine pure_ (i := 29) (N := some 38) (v := ?_) (a' := ?_) #[true, true, true, true, true, true, true, true, true, true, true, true, true, true, true, true, true, true, true, true, true, true, true, true, true, false, true, false, false, true, false, false, false, false] rfl rfl (any_of HT_.out (by kernel_rfl)) (fun _ _ _ h => h) (Or.inl ⟨by rfl, ?_⟩) ?_ ?_
      rotate_left
      ·
       intro w'
       go_simp
       with_reducible rfl
      rotate_left
      ·
       simp only [Act.put, List.setIfInBounds_toArray, List.set_cons_zero, List.set_cons_succ, i64_w, i32_w]
       rfl
      refine take_ (i := 25) (N := some 34) (v := ?_) (a' := ?_) #[true, true, true, true, true, true, true, true, true, true, true, true, true, true, true, true, true, true, true, true, true, true, true, true, true, true, true, false, false, true, false, false, false, false] rfl rfl (take_ofW HT_.out HW_.out (by kernel_rfl)) (fun _ _ _ h => h) (Or.inl ⟨by rfl, ?_⟩) hHeld ?_ ?_
      rotate_left
      ·
       rintro w' ⟨s0, s1⟩
       go_simp
       with_reducible rfl
      rotate_left
      ·
       simp only [Act.put, List.setIfInBounds_toArray, List.set_cons_zero, List.set_cons_succ, i64_w, i32_w]
       rfl
      refine take_ (i := 28) (N := some 37) (v := ?_) (a' := ?_) #[true, true, true, true, true, true, true, true, true, true, true, true, true, true, true, true, true, true, true, true, true, true, true, true, true, true, true, false, true, true, false, false, false, false] rfl rfl (take_ofW HT_.out HW_.out (by kernel_rfl)) (fun _ _ _ h => h) (Or.inl ⟨by rfl, ?_⟩) hHeld ?_ ?_
      rotate_left
      ·
       rintro w' ⟨s0, s1⟩
       go_simp
       with_reducible rfl
      rotate_left
      ·
       simp only [Act.put, List.setIfInBounds_toArray, List.set_cons_zero, List.set_cons_succ, i64_w, i32_w]
       rfl
      refine one_ (i := 27) (N := some 36) #[true, true, true, true, true, true, true, true, true, true, true, true, true, true, true, true, true, true, true, true, true, true, true, true, true, true, true, true, true, true, false, false, false, false] rfl rfl (one_of HT_.out (by kernel_rfl)) (by decide) (fun K hK => ?_)
      refine goes_ Try.func45 (by kernel_rfl) rfl #[.agg #[.slice A0_0 l0_0.length c0_0, .slice A0_1 l0_1.length c0_1], .slice A1 l1.length c1] (by rfl) rfl rfl (by (try simp only [List.map_toArray, List.map_cons, List.map_nil]); first | done | rfl | (simp only [List.length_drop, List.length_take]; rfl)) ?_
      with_reducible refine (bfs_Parents.calls k _ _ l0_0 _ _ l0_1 _ _ l1 t682 _ ?side1 ?side2 ?side3 ?side4 ?side5 ?side6 A21.out).mono ?_
      (case side1 => repeat (first | exact (Kd.C_below HR0_0.out HB.out) | (with_reducible refine Kd.C_alloc ?_ _) | (with_reducible refine Kd.C_drewN ?_ _) | (with_reducible refine Kd.C_drew ?_)))
      (case side2 => exact HC0_0.out)
      (case side3 => repeat (first | exact (Kd.C_below HR0_1.out HB.out) | (with_reducible refine Kd.C_alloc ?_ _) | (with_reducible refine Kd.C_drewN ?_ _) | (with_reducible refine Kd.C_drew ?_)))
      (case side4 => exact HC0_1.out)
      (case side5 => repeat (first | exact (Kd.C_below HR1.out HB.out) | (with_reducible refine Kd.C_alloc ?_ _) | (with_reducible refine Kd.C_drewN ?_ _) | (with_reducible refine Kd.C_drew ?_)))
      (case side6 => exact HC1.out)
      rintro e w35 ⟨v683, rfl, ho0, hb⟩
      refine ⟨_, rfl, ?_⟩
      have n0_ := Aside0.mk (Kd.R_lower ho0 (below_size (by repeat (first | (with_reducible first | exact HB.out | apply below_alloc | apply pw_below_drewN | apply below_drew1 | refine below_set ?_ GE664.out) | exact HB.out))))
      have n1_ := Aside0.mk (blk_below (g := gb664) (o := .cells #[.slice A0_0 l0_0.length c0_0, .slice A0_1 l0_1.length c0_1] 27 (0, 0)) (by (with_reducible repeat (first | refine blk_drewN ?_ _ | refine blk_drew ?_ | refine blk_alloc ?_ _)); exact BK664.out) hb)
      have n2_ := Aside0.mk (below_step (by repeat (first | (with_reducible first | exact HB.out | apply below_alloc | apply pw_below_drewN | apply below_drew1 | refine below_set ?_ GE664.out) | exact HB.out)) hb)
      clear BK664
      clear HB
      have HO684 := n0_
      have BK664 := n1_
      have HB := n2_
      clear n0_ n1_ n2_
      (try clear hb)
      (try clear hb2)
      (try clear hk)
      (try clear hi)
      (try clear ho0)
      refine hK.out _ _ ⟨(blk_cell BK664.out 0).trans rfl, (blk_cell BK664.out 1).trans rfl⟩ (fun hHeld => ?_)
      clear hK K
      refine norm_ (a' := ?_) ?_ ?_
      rotate_left
      ·
       show Act.put _ (some 36) _ = _
       simp only [Act.put, List.setIfInBounds_toArray, List.set_cons_zero, List.set_cons_succ, i64_w, i32_w]
       rfl
      refine one_ (i := 30) (N := some 39) #[true, true, true, true, true, true, true, true, true, true, true, true, true, true, true, true, true, true, true, true, true, true, true, true, true, true, true, true, true, true, true, false, false, false] rfl rfl (one_of HT_.out (by kernel_rfl)) (by decide) (fun K hK => ?_)
      refine goes_ Try.func46 (by kernel_rfl) rfl #[.agg #[.slice A0_0 l0_0.length c0_0, .slice A0_1 l0_1.length c0_1], .slice A1 l1.length c1] (by rfl) rfl rfl (by (try simp only [List.map_toArray, List.map_cons, List.map_nil]); first | done | rfl | (simp only [List.length_drop, List.length_take]; rfl)) ?_
      with_reducible refine (selfstabref23_Parents.calls k _ _ l0_0 _ _ l0_1 _ _ l1 t685 _ ?side1 ?side2 ?side3 ?side4 ?side5 ?side6 A22.out).mono ?_
      (case side1 => repeat (first | exact (Kd.C_below HR0_0.out HB.out) | (with_reducible refine Kd.C_alloc ?_ _) | (with_reducible refine Kd.C_drewN ?_ _) | (with_reducible refine Kd.C_drew ?_)))
      (case side2 => exact HC0_0.out)
      (case side3 => repeat (first | exact (Kd.C_below HR0_1.out HB.out) | (with_reducible refine Kd.C_alloc ?_ _) | (with_reducible refine Kd.C_drewN ?_ _) | (with_reducible refine Kd.C_drew ?_)))
      (case side4 => exact HC0_1.out)
      (case side5 => repeat (first | exact (Kd.C_below HR1.out HB.out) | (with_reducible refine Kd.C_alloc ?_ _) | (with_reducible refine Kd.C_drewN ?_ _) | (with_reducible refine Kd.C_drew ?_)))
      (case side6 => exact HC1.out)
      rintro e w36 ⟨v686, rfl, ho0, hb⟩
      refine ⟨_, rfl, ?_⟩
      have n0_ := Aside0.mk (Kd.R_elder' (by (with_reducible repeat (first | apply Kd.R_alloc | apply Kd.R_drewN | apply Kd.R_drew)); exact HO684.out) (Kd.R_base ho0) hb)
      have n1_ := Aside0.mk (Kd.R_lower (Kd.R_new' ho0 (Kd.R_lt (by (with_reducible repeat (first | apply Kd.R_alloc | apply Kd.R_drewN | apply Kd.R_drew)); exact HO684.out))) (below_size (by repeat (first | (with_reducible first | exact HB.out | apply below_alloc | apply pw_below_drewN | apply below_drew1 | refine below_set ?_ GE664.out) | exact HB.out))))
      have n2_ := Aside0.mk (blk_below (g := gb664) (o := .cells #[.slice A0_0 l0_0.length c0_0, .slice A0_1 l0_1.length c0_1] 27 (0, 0)) (by (with_reducible repeat (first | refine blk_drewN ?_ _ | refine blk_drew ?_ | refine blk_alloc ?_ _)); exact BK664.out) hb)
      have n3_ := Aside0.mk (below_step (by repeat (first | (with_reducible first | exact HB.out | apply below_alloc | apply pw_below_drewN | apply below_drew1 | refine below_set ?_ GE664.out) | exact HB.out)) hb)
      clear HO684
      clear BK664
      clear HB
      have HO684 := n0_
      have HO687 := n1_
      have BK664 := n2_
      have HB := n3_
      clear n0_ n1_ n2_ n3_
      (try clear hb)
      (try clear hb2)
      (try clear hk)
      (try clear hi)
      (try clear ho0)
      obtain ⟨Ao37, co37, eo37⟩ := Kd.R_slice HO684.out
      (first | subst eo37 | (injection eo37 with f1_ f2_ f3_; have f4_ := f1_.symm; have f5_ := f3_.symm; clear f1_ f2_ f3_; subst f4_; subst f5_))
      obtain ⟨Ao38, co38, eo38⟩ := Kd.R_slice HO687.out
      (first | subst eo38 | (injection eo38 with f1_ f2_ f3_; have f4_ := f1_.symm; have f5_ := f3_.symm; clear f1_ f2_ f3_; subst f4_; subst f5_))
      refine hK.out _ _ ⟨(blk_cell BK664.out 0).trans rfl, (blk_cell BK664.out 1).trans rfl⟩ (fun hHeld => ?_)
      clear hK K
      refine norm_ (a' := ?_) ?_ ?_
      rotate_left
      ·
       show Act.put _ (some 39) _ = _
       simp only [Act.put, List.setIfInBounds_toArray, List.set_cons_zero, List.set_cons_succ, i64_w, i32_w]
       rfl
      refine one_ (i := 31) (N := some 40) #[true, true, true, true, true, true, true, true, true, true, true, true, true, true, true, true, true, true, true, true, true, true, true, true, true, true, true, true, true, true, true, true, false, false] rfl rfl (one_of HT_.out (by kernel_rfl)) (by decide) (fun K hK => ?_)
      refine goes_ Try.func44 (by kernel_rfl) rfl #[.slice Ao37 t682.length co37, .slice Ao38 t685.length co38] (by rfl) rfl rfl (by (try simp only [List.map_toArray, List.map_cons, List.map_nil]); first | done | rfl | (simp only [List.length_drop, List.length_take]; rfl)) ?_
      with_reducible refine (selfstablaw23_sameInts.calls k _ _ t682 _ _ t685 t688 _ ?side1 ?side2 ?side3 ?side4 A23.out).mono ?_
      (case side1 => repeat (first | exact (Kd.R_reads' HO684.out).2.2 | (with_reducible refine Kd.C_alloc ?_ _) | (with_reducible refine Kd.C_drewN ?_ _) | (with_reducible refine Kd.C_drew ?_)))
      (case side2 => exact (Kd.R_reads' HO684.out).2.1)
      (case side3 => repeat (first | exact (Kd.R_reads' HO687.out).2.2 | (with_reducible refine Kd.C_alloc ?_ _) | (with_reducible refine Kd.C_drewN ?_ _) | (with_reducible refine Kd.C_drew ?_)))
      (case side4 => exact (Kd.R_reads' HO687.out).2.1)
      rintro e w' ⟨rfl, ⟨nd, rfl⟩⟩
      refine ⟨_, rfl, ?_⟩
      refine hK.out _ _ ⟨(blk_cell BK664.out 0).trans rfl, (blk_cell BK664.out 1).trans rfl⟩ (fun hHeld => ?_)
      clear hK K
      refine norm_ (a' := ?_) ?_ ?_
      rotate_left
      ·
       show Act.put _ (some 40) _ = _
       simp only [Act.put, List.setIfInBounds_toArray, List.set_cons_zero, List.set_cons_succ, i64_w, i32_w]
       rfl
      refine pure_ (i := 32) (N := some 41) (v := ?_) (a' := ?_) #[true, true, true, true, true, true, true, true, true, true, true, true, true, true, true, true, true, true, true, true, true, true, true, true, true, true, true, true, true, true, true, true, true, false] rfl rfl (any_of HT_.out (by kernel_rfl)) (fun _ _ _ h => h) (Or.inl ⟨by rfl, ?_⟩) ?_ ?_
      rotate_left
      ·
       intro w'
       go_simp
       with_reducible rfl
      rotate_left
      ·
       simp only [Act.put, List.setIfInBounds_toArray, List.set_cons_zero, List.set_cons_succ, i64_w, i32_w]
       rfl
      refine pure_ (i := 33) (N := some 4) (v := ?_) (a' := ?_) #[true, true, true, true, true, true, true, true, true, true, true, true, true, true, true, true, true, true, true, true, true, true, true, true, true, true, true, true, true, true, true, true, true, true] rfl rfl (any_of HT_.out (by kernel_rfl)) (fun _ _ _ h => h) (Or.inl ⟨by rfl, ?_⟩) ?_ ?_
      rotate_left
      ·
       intro w'
       go_simp
       with_reducible rfl
      rotate_left
      ·
       simp only [Act.put, List.setIfInBounds_toArray, List.set_cons_zero, List.set_cons_succ, i64_w, i32_w]
       rfl
      refine done_ (done_of HT_.out (by kernel_rfl)) ?_
      try go_wp2
      go_ret
      exact ⟨by first | rfl | (simp [errW_none, errW_some] <;> rfl) | (simp [*, errW_none, errW_some] <;> rfl), by repeat (first | (with_reducible first | exact HB.out | apply below_alloc | apply pw_below_drewN | apply below_drew1 | refine below_set ?_ GE664.out) | exact HB.out)⟩
     ·
      rw [if_neg c20] at H
      exact absurd H (by simp)
    ·
     rw [if_neg c17] at H
     exact absurd H (by simp)
   ·
    rw [if_neg c14] at H
    exact absurd H (by simp)
  ·
   replace c11 := Bool.eq_false_iff.mpr c11
   subst c11
   have H1 : (none) = some r := by rw [if_neg (show ¬ (false = true) by decide)] at H; exact H
   clear H
   have H := H1
   clear H1
   exact absurd H (by simp)
end Go.Proofs.YthapikakneikbaaG
/-
  Plain laws of bfs: what the service computes is what its reference says, for any graph and any lists.
-/
namespace Go.Proofs.YthapikakneikbaaG
open Go.RowKit Go.Proofs.YthapikakneikbaaW.PrintWords Go.Proofs.YthapikakneikbaaW.PrintMore
open Go.Proofs.Ythapikakneikbaa (holdsB confB inRange)
/-- The first port that leads to a smaller number, or -1. -/
def firstP (f : Nat → Int) (d : Int) : List S60 → Nat → Int
  | [], _ => -1
  | l :: r, i => if f l.f0.toNat < d then (i : Int) else firstP f d r (i + 1)
theorem firstP_drop {f : Nat → Int} {d : Int} {row : List S60} {i : Nat} (h : i < row.length) : firstP f d (row.drop i) i = if f row[i].f0.toNat < d then (i : Int) else firstP f d (row.drop (i + 1)) (i + 1) := by
  rw [List.drop_eq_getElem_cons h]
  rfl
theorem towards_l0 {n v : Nat} {f : Nat → Int} {row : List S60} (hv : v < n) (hr : ∀ l ∈ row, 0 ≤ l.f0 ∧ l.f0 < n) (hl : row.length ≤ 576) : ∀ m i, m + i = row.length →
    Ev (fun k => bfs_towards.l0 k (outL n f) (v : Int) row (row.length : Int) (i : Int)) (firstP f (f v) (row.drop i) i) := by
  intro m
  induction m with
  | zero =>
    intro i hm
    refine Ev.step (f := fun _ => some (-1)) (fun k => ?_) (Ev.some' ?_)
    · rw [bfs_towards.l0, if_neg (by omega)]
    · rw [List.drop_of_length_le (by omega)]
      rfl
  | succ m ih =>
    intro i hm
    have hi : i < row.length := by omega
    obtain ⟨g1, g2⟩ := hr _ (List.getElem_mem hi)
    have hlk : rd_T60 row (i : Int) = row[i] := rdLink_nat hi
    obtain ⟨t, ht⟩ := Int.eq_ofNat_of_zero_le g1
    have hlen : (outL n f).length = n := outL_len n f
    have c1 : (t : Int) < ((outL n f).length : Int) := by rw [hlen]; omega
    have c2 : (v : Int) < ((outL n f).length : Int) := by rw [hlen]; omega
    have ct0 : (0 : Int) ≤ (t : Int) := by omega
    have cv0 : (0 : Int) ≤ (v : Int) := by omega
    rw [firstP_drop hi, ht, Int.toNat_natCast]
    by_cases hlt : f t < f v
    · rw [if_pos hlt]
      refine Ev.step (f := fun _ => some (i : Int)) (fun k => ?_) Ev.some
      rw [bfs_towards.l0, if_pos (by omega), if_pos (by omega), if_pos (by omega), hlk, ht, if_pos ct0, if_pos c1, if_pos cv0, if_pos c2, outL_rd (by omega), outL_rd hv, if_pos hlt]
    · rw [if_neg hlt]
      refine Ev.step (fun k => ?_) (ih (i + 1) (by omega))
      rw [bfs_towards.l0, if_pos (by omega), if_pos (by omega), if_pos (by omega), hlk, ht, if_pos ct0, if_pos c1, if_pos cv0, if_pos c2, outL_rd (by omega), outL_rd hv, if_neg hlt, wrap_id (by omega) (by omega)]
      rfl
section
variable {ids : List Int} {p : List (List S60)} {c : List (List Int)}
theorem row_get {v : Nat} (hv : v < p.length) : rd_L2 p (v : Int) = p[v] := by rw [rdPorts_nat, List.getD_eq_getElem?_getD, List.getElem?_eq_getElem hv]; rfl
/-- The pointer of node v in the tree around node a. -/
def ptrS (p : List (List S60)) (a v : Nat) : Int := firstP (distTo p a p.length) (distTo p a p.length v) (p.getD v []) 0
theorem towards_ev (hV : (toG ids p).valid = true) (a : Nat) {v : Nat} (hv : v < p.length) : Ev (fun k => bfs_towards.f k ids p (distL p a) (v : Int)) (ptrS p a v) := by
  have hs := valid_size hV
  have hg : p.getD v [] = p[v] := by rw [List.getD_eq_getElem?_getD, List.getElem?_eq_getElem hv]; rfl
  unfold ptrS
  rw [hg]
  refine Ev.congr (fun k => ?_) (towards_l0 hv (fun l hl => by obtain ⟨h1, h2, _⟩ := valid_to hV hv hl; exact ⟨h1, h2⟩) (row_small hV hv) p[v].length 0 (by omega))
  unfold bfs_towards.f
  rw [if_pos (by omega), if_pos (by omega), row_get hv]
  rfl
/-- The states are right: distances from node a at place d, pointers at place q. -/
def treeRow (p : List (List S60)) (c : List (List Int)) (a d q v : Nat) : Bool := decide ((c.getD v []).getD d 0 = distTo p a p.length v) && decide ((c.getD v []).getD q 0 = ptrS p a v)
def treeS (p : List (List S60)) (c : List (List Int)) (a d q : Nat) : Bool := (List.range p.length).all (treeRow p c a d q)
theorem range_all {q : Nat → Bool} {n i : Nat} (hi : i < n) (h : q i = false) : (List.range n).all q = false := by
  rw [List.all_eq_false]
  exact ⟨i, List.mem_range.2 hi, by simp [h]⟩
theorem range_succ_all {q : Nat → Bool} {i : Nat} : (List.range (i + 1)).all q = ((List.range i).all q && q i) := by
  rw [List.range_succ, List.all_append]
  simp
theorem legit_l0 (hV : (toG ids p).valid = true) (hc : c.length = p.length) (hr : ∀ v, v < c.length → (c.getD v []).length = 2) : ∀ m i, m + i = p.length → (List.range i).all (treeRow p c 0 0 1) = true →
    Ev (fun k => bfs_Legit.l0 k (distL p 0) c (c.length : Int) (i : Int) ids p) (treeS p c 0 0 1) := by
  have hs := valid_size hV
  intro m
  induction m with
  | zero =>
    intro i hm h
    obtain rfl : i = p.length := by omega
    refine Ev.step (f := fun _ => some (treeS p c 0 0 1)) (fun k => ?_) Ev.some
    rw [bfs_Legit.l0, if_neg (by omega)]
    unfold treeS
    rw [h]
  | succ m ih =>
    intro i hm h
    have hi : i < p.length := by omega
    have hrow : rd_L3 c (i : Int) = c.getD i [] := rdRow_nat
    have hrl : ((c.getD i []).length : Int) = 2 := by rw [hr i (by omega)]; rfl
    have hdl : ((distL p 0).length : Int) = p.length := by rw [distL_len]
    have r0 : rd (c.getD i []) 0 = (c.getD i []).getD 0 0 := rfl
    have r1 : rd (c.getD i []) 1 = (c.getD i []).getD 1 0 := rfl
    have hd : rd (distL p 0) (i : Int) = distTo p 0 p.length i := outL_rd hi
    have bad : treeRow p c 0 0 1 i = false → Ev (fun _ : Nat => some false) (treeS p c 0 0 1) := fun hb => Ev.some' (range_all hi hb).symm
    by_cases h0 : (c.getD i []).getD 0 0 = distTo p 0 p.length i
    · refine Ev.step (f := fun k => (bfs_towards.f k ids p (distL p 0) (i : Int)).bind fun t => if (c.getD i []).getD 1 0 = t then bfs_Legit.l0 k (distL p 0) c (c.length : Int) ((i + 1 : Nat) : Int) ids p else some false) (fun k => ?_) (Ev.bind (towards_ev hV 0 hi) ?_)
      · rw [bfs_Legit.l0, if_pos (by omega), if_pos (by omega), if_pos (by omega), hrow, if_pos (by omega), if_pos (by omega), r0, hd, if_pos h0, if_pos (by omega), r1, wrap_id (by omega) (by omega)]
        rfl
      · by_cases h1 : (c.getD i []).getD 1 0 = ptrS p 0 i
        · refine Ev.congr (fun k => by rw [if_pos h1]) (ih (i + 1) (by omega) ?_)
          rw [range_succ_all, h, Bool.true_and]
          unfold treeRow
          rw [decide_eq_true h0, decide_eq_true h1]
          rfl
        · refine Ev.congr (fun k => by rw [if_neg h1]) (bad ?_)
          unfold treeRow
          rw [decide_eq_false h1, Bool.and_false]
    · refine Ev.step (fun k => ?_) (bad ?_)
      · rw [bfs_Legit.l0, if_pos (by omega), if_pos (by omega), if_pos (by omega), hrow, if_pos (by omega), if_pos (by omega), r0, hd, if_neg h0]
      · unfold treeRow
        rw [decide_eq_false h0, Bool.false_and]
def fitHolds (ids : List Int) (p : List (List S60)) (c : List (List Int)) : Bool := connG ids p && holdsB (toG ids p) c [(p.length : Int), -1]
theorem configuration_ev : Ev (fun k => bfs_configuration.f k ids p c) (fitHolds ids p c) := by
  unfold bfs_configuration.f bfs_Fit.f fitHolds
  refine Ev.bind (Ev.bind (conn_ev ids p) Ev.some) ?_
  cases connG ids p with
  | false => exact Ev.congr (f := fun _ => some false) (fun k => by rw [if_neg (by simp)]) Ev.some
  | true => exact Ev.congr (f := fun _ => some (holdsB (toG ids p) c [(p.length : Int), -1])) (fun k => by rw [if_pos rfl]; rfl) (Ev.some' (Bool.true_and _).symm)
def legitB (ids : List Int) (p : List (List S60)) (c : List (List Int)) : Bool := fitHolds ids p c && treeS p c 0 0 1
theorem fit_rows (h : fitHolds ids p c = true) : (toG ids p).valid = true ∧ c.length = p.length ∧ ∀ v, v < c.length → (c.getD v []).length = 2 ∧ -1 ≤ (c.getD v []).getD 1 0 ∧ (c.getD v []).getD 1 0 < (p.getD v []).length := by
  unfold fitHolds at h
  rw [Bool.and_eq_true] at h
  obtain ⟨h1, h2⟩ := holds_rows h.2
  rw [toG_len] at h1
  refine ⟨conn_valid h.1, h1, fun v hv => ?_⟩
  obtain ⟨h3, h4⟩ := h2 v hv
  have h5 := h4 1 (by simp)
  unfold inRange at h5
  rw [toG_row, List.length_map] at h5
  simp at h5
  exact ⟨h3, by simpa using h5⟩
theorem legitB_ev : Ev (fun k => bfs_Legit.f k ids p c) (legitB ids p c) := by
  unfold bfs_Legit.f
  refine Ev.bind configuration_ev ?_
  unfold legitB
  cases hf : fitHolds ids p c with
  | false => exact Ev.congr (f := fun _ => some false) (fun k => by rw [if_neg (by simp)]) Ev.some
  | true =>
    obtain ⟨hV, hc, hr⟩ := fit_rows hf
    have hs := valid_size hV
    rw [Bool.true_and]
    refine Ev.congr (fun k => by rw [if_pos rfl]) (Ev.bind (dist_ev ids p 0) ?_)
    rw [show (0 : Int) = ((0 : Nat) : Int) from rfl, distS_yes hV (by omega)]
    exact legit_l0 hV hc (fun v hv => (hr v hv).1) p.length 0 (by omega) rfl
/-! ### the reference -/
/-- The first port of those from i on that leads to the number before d; else what is given. -/
def firstR (f : Nat → Int) (d : Int) : List S60 → Nat → Int
  | [], _ => -1
  | l :: r, i => if f l.f0.toNat = d - 1 then (i : Int) else firstR f d r (i + 1)
theorem firstR_drop {f : Nat → Int} {d : Int} {row : List S60} {i : Nat} (h : i < row.length) : firstR f d (row.drop i) i = if f row[i].f0.toNat = d - 1 then (i : Int) else firstR f d (row.drop (i + 1)) (i + 1) := by
  rw [List.drop_eq_getElem_cons h]
  rfl
theorem firstR_eq {f : Nat → Int} {d : Int} : ∀ (row : List S60) (i : Nat), (∀ l ∈ row, d - 1 ≤ f l.f0.toNat) → firstR f d row i = firstP f d row i := by
  intro row
  induction row with
  | nil => exact fun _ _ => rfl
  | cons l r ih =>
    intro i h
    have h1 := h l List.mem_cons_self
    unfold firstR firstP
    rw [ih (i + 1) (fun l hl => h l (List.mem_cons_of_mem _ hl))]
    by_cases e : f l.f0.toNat = d - 1
    · rw [if_pos e, if_pos (by omega)]
    · rw [if_neg e, if_neg (by omega)]
theorem rtree_l1 (hV : (toG ids p).valid = true) (a d q : Nat) (hd : d < 6) (hq : q < 6) {v : Nat} (hv : v < p.length) (hc : c.length = p.length) (hrw : d < (c.getD v []).length ∧ q < (c.getD v []).length) (r : Bool)
    (hyes : treeRow p c a d q v = true → Ev (fun k => selfstabref23_Tree.l0 k c (d : Int) (q : Int) (distL p a) ((v + 1 : Nat) : Int) ids p) r) (hno : treeRow p c a d q v = false → r = false)
    (hnear : ∀ l ∈ p[v], distTo p a p.length v - 1 ≤ distTo p a p.length l.f0.toNat) : ∀ i, i ≤ p[v].length →
    Ev (fun k => selfstabref23_Tree.l1 k c (d : Int) (q : Int) (distL p a) (v : Int) (firstR (distTo p a p.length) (distTo p a p.length v) (p[v].drop i) i) ((i : Int) - 1) ids p) r := by
  have hs := valid_size hV
  have hlen : (distL p a).length = p.length := distL_len p a
  have hrow : rd_L2 p (v : Int) = p[v] := row_get hv
  have hcrow : rd_L3 c (v : Int) = c.getD v [] := rdRow_nat
  have hdv : rd (distL p a) (v : Int) = distTo p a p.length v := outL_rd hv
  have hsm := row_small hV hv
  have hend := distTo_end (p := p) a v
  have hlo : -1 ≤ distTo p a p.length v := by rcases distTo_cases (p := p) (a := a) p.length v with ⟨h1, _⟩ | ⟨e, _, _, h2⟩ <;> omega
  have cv0 : (0 : Int) ≤ (v : Int) := by omega
  have cv : (v : Int) < (p.length : Int) := by omega
  have cvl : (v : Int) < ((distL p a).length : Int) := by rw [hlen]; exact cv
  intro i
  induction i with
  | zero =>
    intro _
    have hp : firstR (distTo p a p.length) (distTo p a p.length v) (p[v].drop 0) 0 = ptrS p a v := by
      unfold ptrS
      rw [List.drop_zero, firstR_eq _ _ hnear, List.getD_eq_getElem?_getD, List.getElem?_eq_getElem hv]
      rfl
    rw [hp]
    have rdd : rd (c.getD v []) (d : Int) = (c.getD v []).getD d 0 := rd_getD
    have rdq : rd (c.getD v []) (q : Int) = (c.getD v []).getD q 0 := rd_getD
    by_cases h0 : (c.getD v []).getD d 0 = distTo p a p.length v
    · by_cases h1 : (c.getD v []).getD q 0 = ptrS p a v
      · refine Ev.step (fun k => ?_) (hyes (by unfold treeRow; rw [decide_eq_true h0, decide_eq_true h1]; rfl))
        rw [selfstabref23_Tree.l1, if_neg (by omega), if_pos cv0, if_pos (by omega), if_pos (by omega), hcrow, if_pos (by omega), if_pos cvl, rdd, hdv, if_pos h0, if_pos (by omega), if_pos (by omega), rdq, if_pos h1, wrap_id (by omega) (by omega)]
        rfl
      · refine Ev.step (f := fun _ => some false) (fun k => ?_) (Ev.some' (hno (by unfold treeRow; rw [decide_eq_false h1, Bool.and_false])).symm)
        rw [selfstabref23_Tree.l1, if_neg (by omega), if_pos cv0, if_pos (by omega), if_pos (by omega), hcrow, if_pos (by omega), if_pos cvl, rdd, hdv, if_pos h0, if_pos (by omega), if_pos (by omega), rdq, if_neg h1]
    · refine Ev.step (f := fun _ => some false) (fun k => ?_) (Ev.some' (hno (by unfold treeRow; rw [decide_eq_false h0, Bool.false_and])).symm)
      rw [selfstabref23_Tree.l1, if_neg (by omega), if_pos cv0, if_pos (by omega), if_pos (by omega), hcrow, if_pos (by omega), if_pos cvl, rdd, hdv, if_neg h0]
  | succ i ih =>
    intro hi
    have hil : i < p[v].length := by omega
    obtain ⟨g1, g2, _⟩ := valid_to hV hv (List.getElem_mem hil)
    obtain ⟨t, ht⟩ := Int.eq_ofNat_of_zero_le g1
    have hlk : rd_T60 p[v] (i : Int) = p[v][i] := rdLink_nat hil
    have hdt : rd (distL p a) (t : Int) = distTo p a p.length t := outL_rd (by omega)
    have ct0 : (0 : Int) ≤ (t : Int) := by omega
    have ct : (t : Int) < ((distL p a).length : Int) := by rw [hlen]; omega
    have ei : ((i + 1 : Nat) : Int) - 1 = (i : Int) := by omega
    have ci : (i : Int) < (p[v].length : Int) := by omega
    have h := ih (by omega)
    rw [firstR_drop hil, ht, Int.toNat_natCast] at h
    rw [ei]
    by_cases e : distTo p a p.length t = distTo p a p.length v - 1
    · rw [if_pos e] at h
      refine Ev.step (fun k => ?_) h
      rw [selfstabref23_Tree.l1, if_pos (by omega), if_pos cv0, if_pos cv, if_pos (by omega), hrow, if_pos ci, hlk, ht, if_pos ct0, if_pos ct, if_pos cvl, hdt, hdv, wrap_id (by omega) (by omega), if_pos e, wrap_id (by omega) (by omega)]
    · rw [if_neg e] at h
      refine Ev.step (fun k => ?_) h
      rw [selfstabref23_Tree.l1, if_pos (by omega), if_pos cv0, if_pos cv, if_pos (by omega), hrow, if_pos ci, hlk, ht, if_pos ct0, if_pos ct, if_pos cvl, hdt, hdv, wrap_id (by omega) (by omega), if_neg e, wrap_id (by omega) (by omega)]
theorem rtree_l0 (hC : connG ids p = true) {a : Nat} (ha : a < p.length) (d q : Nat) (hd : d < 6) (hq : q < 6) (hc : c.length = p.length) (hr : ∀ v, v < p.length → d < (c.getD v []).length ∧ q < (c.getD v []).length) : ∀ m v, m + v = p.length → (List.range v).all (treeRow p c a d q) = true →
    Ev (fun k => selfstabref23_Tree.l0 k c (d : Int) (q : Int) (distL p a) (v : Int) ids p) (treeS p c a d q) := by
  have hV := conn_valid hC
  have hs := valid_size hV
  intro m
  induction m with
  | zero =>
    intro v hm h
    obtain rfl : v = p.length := by omega
    refine Ev.step (f := fun _ => some (treeS p c a d q)) (fun k => ?_) Ev.some
    rw [selfstabref23_Tree.l0, if_neg (by omega)]
    unfold treeS
    rw [h]
  | succ m ih =>
    intro v hm h
    have hv : v < p.length := by omega
    have hsm := row_small hV hv
    have h1 := rtree_l1 (c := c) hV a d q hd hq hv hc (hr v hv) (treeS p c a d q) (fun ht => ih (v + 1) (by omega) (by rw [range_succ_all, h, ht]; rfl)) (fun hf => range_all hv hf) (fun l hl => by
      obtain ⟨g1, g2, _⟩ := valid_to hV hv hl
      have hn := dist_near (p := p) (a := a) hv (u := l.f0.toNat) (by omega) (adj_sym hV hv (by omega) (by
        unfold adjP
        rw [List.getD_eq_getElem?_getD, List.getElem?_eq_getElem hv, List.any_eq_true]
        exact ⟨l, hl, decide_eq_true (by omega)⟩)) (conn_from hC ha _ (by omega))
      omega) p[v].length (Nat.le_refl _)
    refine Ev.step (fun k => ?_) h1
    rw [selfstabref23_Tree.l0, if_pos (by omega), if_pos (by omega), row_get hv, wrap_id (by omega) (by omega), List.drop_length]
    rfl
theorem rtree_ev (hC : connG ids p = true) {a : Nat} (ha : a < p.length) (d q : Nat) (hd : d < 6) (hq : q < 6) (hc : c.length = p.length) (hr : ∀ v, v < p.length → d < (c.getD v []).length ∧ q < (c.getD v []).length) :
    Ev (fun k => selfstabref23_Tree.f k ids p c (a : Int) (d : Int) (q : Int)) (treeS p c a d q) := by
  unfold selfstabref23_Tree.f
  refine Ev.bind (rdist_ev ids p a) ?_
  rw [distS_yes (conn_valid hC) ha]
  exact rtree_l0 hC ha d q hd hq hc hr p.length 0 (by omega) rfl
theorem conf23 (hV : (toG ids p).valid = true) : ∃ vs, selfstabref23_Vars.f = some vs ∧ selfstabref23_Config.f ids p c vs = some (holdsB (toG ids p) c [(p.length : Int), -1]) := by
  have hs := valid_size hV
  refine ⟨_, rfl, ?_⟩
  unfold selfstabref23_Config.f
  rw [if_pos ⟨by simp, by decide⟩]
  have hm : mostOf (toG ids p).ports.length (Go.Proofs.Ythapikakneikbaa.topOf (toG ids p).ids) ⟨⟨#[100]⟩, 1, 0, 0, 1, 0⟩ = (p.length : Int) := by
    unfold mostOf
    rw [if_neg (by decide), if_neg (by decide), toG_len]
    simp
  congr 1
  refine conf_holds hV (most := [(p.length : Int), -1]) ?_ ?_
  · show _ = [mostOf _ _ _, mostOf _ _ _]
    exact congrArg (fun x => [x, (-1 : Int)]) hm.symm
  · intro x hx
    simp at hx
    rcases hx with rfl | rfl
    · refine .inr ⟨.inr rfl, ?_⟩
      show mostOf _ _ (⟨⟨#[100]⟩, 1, 0, 0, 1, 0⟩ : Go.Proofs.Ythapikakneikbaa.Var) ≠ -1
      rw [hm]; omega
    · exact .inl rfl
theorem refLegitB_ev : Ev (fun k => selfstabref23_Legit.f k ids p c) (legitB ids p c) := by
  unfold selfstabref23_Legit.f selfstabref23_Fit.f
  refine Ev.bind (Ev.bind (rconn_ev ids p) Ev.some) ?_
  unfold legitB fitHolds
  cases hC : connG ids p with
  | false => exact Ev.congr (f := fun _ => some false) (fun k => by rw [if_neg (by simp)]) Ev.some
  | true =>
    have hV := conn_valid hC
    obtain ⟨vs, hvs, hcf⟩ := conf23 (c := c) hV
    refine Ev.congr (fun k => by rw [if_pos rfl, hvs, Option.bind_some, hcf, Option.bind_some]) (f := fun k => if holdsB (toG ids p) c [(p.length : Int), -1] = true then (selfstabref23_Tree.f k ids p c 0 0 1).bind fun t => some t else some false) ?_
    cases hh : holdsB (toG ids p) c [(p.length : Int), -1] with
    | false => exact Ev.congr (f := fun _ => some false) (fun k => by rw [if_neg (by simp)]) Ev.some
    | true =>
      have hf : fitHolds ids p c = true := by unfold fitHolds; rw [hC, hh]; rfl
      obtain ⟨_, hc, hr⟩ := fit_rows hf
      refine Ev.congr (fun k => by rw [if_pos rfl]; rfl) (Ev.bind (rtree_ev (c := c) hC (a := 0) (conn_pos hC) 0 1 (by omega) (by omega) hc (fun v hv => by have := (hr v (by omega)).1; omega)) (Ev.some' ?_))
      rfl
theorem claimB_ev : ∃ r, Ev (fun k => bfs_Claim.f k ids p) r ∧ Ev (fun k => selfstabref23_Claim.f k ids p) r := by
  unfold bfs_Claim.f selfstabref23_Claim.f bfs_Fit.f selfstabref23_Fit.f
  cases hC : connG ids p with
  | false =>
    refine ⟨(0, false, false, 0, 0), Ev.bind (Ev.bind (conn_ev ids p) Ev.some) ?_, Ev.bind (Ev.bind (rconn_ev ids p) Ev.some) ?_⟩ <;> rw [hC] <;> exact Ev.congr (f := fun _ => some (0, false, false, 0, 0)) (fun k => by rw [if_neg (by simp)]) Ev.some
  | true =>
    refine ⟨(3, false, true, wrap64 (maxS (distS ids p 0) + 1), -1), Ev.bind (Ev.bind (conn_ev ids p) Ev.some) ?_, Ev.bind (Ev.bind (rconn_ev ids p) Ev.some) ?_⟩ <;> rw [hC]
    · refine Ev.congr (fun k => by rw [if_pos rfl]) (Ev.bind (ecc_ev (ids := ids) (p := p) 0) (Ev.some' ?_))
      rw [hC, if_pos rfl]
    · refine Ev.congr (fun k => by rw [if_pos rfl]) (Ev.bind (recc_ev (ids := ids) (p := p) 0) (Ev.some' ?_))
      rw [show greatS (distS ids p 0) = maxS (distS ids p 0) from greatS_conn hC (a := 0) (conn_pos hC)]
/-- The neighbour at a port, or -1. -/
def atS (p : List (List S60)) (c : List (List Int)) (x v : Nat) : Int := if (c.getD v []).getD x 0 < 0 then -1 else (rd_T60 (p.getD v []) ((c.getD v []).getD x 0)).f0
def parentsS (ids : List Int) (p : List (List S60)) (c : List (List Int)) : List Int := if fitHolds ids p c = true then outL c.length (atS p c 1) else []
theorem parents_l0 (hV : (toG ids p).valid = true) (hc : c.length = p.length) (hr : ∀ v, v < c.length → (c.getD v []).length = 2 ∧ -1 ≤ (c.getD v []).getD 1 0 ∧ (c.getD v []).getD 1 0 < (p.getD v []).length) : ∀ m i, m + i = c.length →
    Ev (fun k => bfs_Parents.l0 k (outL c.length fun u => if u < i then atS p c 1 u else 0) c (c.length : Int) (i : Int) ids p) (outL c.length (atS p c 1)) := by
  have hs := valid_size hV
  intro m
  induction m with
  | zero =>
    intro i hm
    obtain rfl : i = c.length := by omega
    refine Ev.step (f := fun _ => some (outL c.length (atS p c 1))) (fun k => ?_) Ev.some
    rw [bfs_Parents.l0, if_neg (by omega)]
    congr 1
    exact outL_ext fun u hu => by rw [if_pos hu]
  | succ m ih =>
    intro i hm
    obtain ⟨h1, h2, h3⟩ := hr i (by omega)
    have hrow : rd_L3 c (i : Int) = c.getD i [] := rdRow_nat
    have r1 : rd (c.getD i []) 1 = (c.getD i []).getD 1 0 := rfl
    have hat : shape_At.f ids p (i : Int) ((c.getD i []).getD 1 0) = some (atS p c 1 i) := by
      unfold shape_At.f atS
      split
      · rfl
      · rw [if_pos (by omega), if_pos (by omega), if_pos (by omega), rdPorts_nat, if_pos h3]
    have hset : (outL c.length fun u => if u < i then atS p c 1 u else 0).set i (atS p c 1 i) = outL c.length fun u => if u < i + 1 then atS p c 1 u else 0 := by
      rw [outL_set]
      refine outL_ext fun u _ => ?_
      by_cases e : u = i
      · rw [if_pos e, if_pos (by omega), e]
      · rw [if_neg e]
        by_cases e2 : u < i
        · rw [if_pos e2, if_pos (by omega)]
        · rw [if_neg e2, if_neg (by omega)]
    refine Ev.step (fun k => ?_) (ih (i + 1) (by omega))
    rw [bfs_Parents.l0, if_pos (by omega), if_pos (by omega), if_pos (by omega), hrow, if_pos (by omega), r1, hat, Option.bind_some, if_pos (by rw [outL_len]; omega), Int.toNat_natCast, hset, wrap_id (by omega) (by omega)]
    rfl
theorem parents_ev : Ev (fun k => bfs_Parents.f k ids p c) (parentsS ids p c) := by
  unfold bfs_Parents.f
  refine Ev.bind configuration_ev ?_
  unfold parentsS
  cases hf : fitHolds ids p c with
  | false => exact Ev.congr (f := fun _ => some []) (fun k => by rw [if_neg (by simp)]) Ev.some
  | true =>
    obtain ⟨hV, hc, hr⟩ := fit_rows hf
    have hs := valid_size hV
    rw [if_pos rfl]
    refine Ev.congr (fun k => ?_) (parents_l0 hV hc hr c.length 0 (by omega))
    rw [if_pos rfl, if_pos (by omega), if_pos (by rw [Int.toNat_natCast]; omega), Int.toNat_natCast, outL_const]
    rfl
theorem named_l0 (hV : (toG ids p).valid = true) (hc : c.length = p.length) (x : Nat) (hx : x < 6) (hr : ∀ v, v < c.length → x < (c.getD v []).length ∧ -1 ≤ (c.getD v []).getD x 0 ∧ (c.getD v []).getD x 0 < (p.getD v []).length) : ∀ m i, m + i = c.length →
    Ev (fun k => selfstabref23_Named.l0 k c (x : Int) (outL i (atS p c x)) (i : Int) ids p) (outL c.length (atS p c x)) := by
  have hs := valid_size hV
  intro m
  induction m with
  | zero =>
    intro i hm
    obtain rfl : i = c.length := by omega
    refine Ev.step (f := fun _ => some (outL c.length (atS p c x))) (fun k => ?_) Ev.some
    rw [selfstabref23_Named.l0, if_neg (by omega)]
  | succ m ih =>
    intro i hm
    obtain ⟨h1, h2, h3⟩ := hr i (by omega)
    have hrow : rd_L3 c (i : Int) = c.getD i [] := rdRow_nat
    have r1 : rd (c.getD i []) (x : Int) = (c.getD i []).getD x 0 := rd_getD
    have hll : (outL i (atS p c x)).length = i := outL_len _ _
    refine Ev.step (fun k => ?_) (ih (i + 1) (by omega))
    rw [selfstabref23_Named.l0, if_pos (by omega), if_pos (by omega), if_pos (by omega), hrow, if_pos (by omega), r1, outL_succ, wrap_id (by omega) (by omega)]
    by_cases hneg : (c.getD i []).getD x 0 < 0
    · rw [if_neg (by omega), if_pos (by rw [hll]; omega)]
      have : atS p c x i = -1 := if_pos hneg
      rw [this]
      rfl
    · rw [if_pos (by omega), if_pos (by omega), if_pos (by omega), rdPorts_nat, if_pos h3, if_pos (by rw [hll]; omega)]
      have : atS p c x i = (rd_T60 (p.getD i []) ((c.getD i []).getD x 0)).f0 := if_neg hneg
      rw [this]
      rfl
theorem rparents_ev : Ev (fun k => selfstabref23_Parents.f k ids p c) (parentsS ids p c) := by
  unfold selfstabref23_Parents.f selfstabref23_Fit.f
  refine Ev.bind (Ev.bind (rconn_ev ids p) Ev.some) ?_
  unfold parentsS
  cases hC : connG ids p with
  | false =>
    have hf : fitHolds ids p c = false := by unfold fitHolds; rw [hC]; rfl
    rw [hf]
    exact Ev.congr (f := fun _ => some []) (fun k => by rw [if_neg (by simp)]) Ev.some
  | true =>
    have hV := conn_valid hC
    obtain ⟨vs, hvs, hcf⟩ := conf23 (c := c) hV
    have hfe : fitHolds ids p c = holdsB (toG ids p) c [(p.length : Int), -1] := by unfold fitHolds; rw [hC]; rfl
    refine Ev.congr (fun k => by rw [if_pos rfl, hvs, Option.bind_some, hcf, Option.bind_some]) (f := fun k => if holdsB (toG ids p) c [(p.length : Int), -1] = true then (selfstabref23_Named.f k ids p c 1).bind fun t => some t else some []) ?_
    rw [← hfe]
    cases hf : fitHolds ids p c with
    | false => exact Ev.congr (f := fun _ => some []) (fun k => by rw [if_neg (by simp)]) Ev.some
    | true =>
      obtain ⟨_, hc, hr⟩ := fit_rows hf
      rw [if_pos rfl]
      exact Ev.congr (fun k => by rw [if_pos rfl]; rfl) (Ev.bind (named_l0 hV hc 1 (by omega) (fun v hv => by obtain ⟨h1, h2⟩ := hr v hv; exact ⟨by omega, h2⟩) c.length 0 (by omega)) Ev.some)
theorem same_l0 (l : List Int) (hl : l.length ≤ 1000) : ∀ m i, m + i = l.length → Ev (fun k => selfstablaw23_sameInts.l0 k l l (i : Int)) true := by
  intro m
  induction m with
  | zero =>
    intro i hm
    refine Ev.step (f := fun _ => some true) (fun k => ?_) Ev.some
    rw [selfstablaw23_sameInts.l0, if_neg (by omega)]
  | succ m ih =>
    intro i hm
    refine Ev.step (fun k => ?_) (ih (i + 1) (by omega))
    rw [selfstablaw23_sameInts.l0, if_pos (by omega), if_pos (by omega), if_pos (by omega), if_pos rfl, wrap_id (by omega) (by omega)]
    rfl
theorem parentsS_len : (parentsS ids p c).length ≤ 24 := by
  unfold parentsS
  split
  · rename_i h
    obtain ⟨hV, hc, _⟩ := fit_rows h
    have := valid_size hV
    rw [outL_len]
    omega
  · simp
end
set_option maxRecDepth 100000 in
theorem known23_at : selfstablaw23_known.f 60 = some true := by kernel_rfl
theorem known23_ev : Ev selfstablaw23_known.f true := Ev.of (fun k => selfstablaw23_known.mono k) known23_at
/-- The statement, over plain data. -/
theorem bfsJudges (ids : List Int) (p : List (List S60)) (c : List (List Int)) : ∃ k, selfstablaw23_BfsJudges.f k ids p c = some true := by
  refine Ev.rounds ?_
  unfold selfstablaw23_BfsJudges.f
  have hl : ∃ b, selfstablaw23_large.f ids p c = some b := by
    unfold selfstablaw23_large.f
    split <;> (try split) <;> exact ⟨_, rfl⟩
  obtain ⟨b, hl⟩ := hl
  refine Ev.bindc hl ?_
  cases b with
  | true =>
    simp only [↓reduceIte]
    exact Ev.bind known23_ev Ev.some
  | false =>
    simp only [Bool.false_eq_true, ↓reduceIte]
    refine Ev.bind known23_ev ?_
    simp only [↓reduceIte]
    refine Ev.bind (Ev.bind (conn_ev ids p) Ev.some) (Ev.bind (Ev.bind (rconn_ev ids p) Ev.some) ?_)
    simp only [beq_self_eq_true, ↓reduceIte]
    refine Ev.bind legitB_ev (Ev.bind refLegitB_ev ?_)
    simp only [beq_self_eq_true, ↓reduceIte]
    obtain ⟨r, h2, h3⟩ := claimB_ev (ids := ids) (p := p)
    refine Ev.bind h2 (Ev.bind h3 ?_)
    simp only [beq_self_eq_true, Bool.and_self, ↓reduceIte]
    refine Ev.bind parents_ev (Ev.bind rparents_ev ?_)
    refine Ev.bind (a := true) ?_ Ev.some
    unfold selfstablaw23_sameInts.f
    refine Ev.congr (fun k => by rw [if_pos rfl]; rfl) (same_l0 (parentsS ids p c) (by have := parentsS_len (ids := ids) (p := p) (c := c); omega) (parentsS ids p c).length 0 (by omega))
end Go.Proofs.YthapikakneikbaaG
/-
  An argument that came in reads as plain data: integers, bools, slices, links, graphs, nets.
-/
namespace Go.Proofs.Ythapikakneikbaa
open Go.RowKit Go.WideShapes Go.ChangeShapes
/-- Whatever reads as data of type t is of kind d. -/
def Opens {α : Type} (t : TypeId) (d : Kd α) : Prop := ∀ (H : Type) (enc : TypeId × Value → H) (W : World) (base : Nat) (spare : Nat → Bool) (held : Bool) (fuel : Nat) (cs : List Value) (x : DataW H × List MemPlace),
  DataW.trod enc Try.prog W base spare held fuel t cs = some x → ∃ a : α, d.K W a cs
theorem opens_int {t : TypeId} {k : IntKind} (ht : Try.prog.underlying t = some (.int k)) : Opens t (Kd.int k) := fun H enc W base spare held fuel cs x h => by
  obtain ⟨n, rfl, _⟩ := DataW.trod_int ht h
  exact ⟨n, rfl⟩
theorem opens_slice {α : Type} {t e : TypeId} {d : Kd α} (ht : Try.prog.underlying t = some (.slice e)) (he : Try.prog.cellsOf e = d.sz) (ho : Opens e d) : Opens t d.slice := fun H enc W base spare held fuel cs x h => by
  rcases Go.Deep.open_slice ht h with ⟨rfl, _⟩ | ⟨a, len, cap, m, n, D, Pl, rfl, _, hl, hm, hmm, _, hx⟩
  · exact ⟨[], _, rfl, none, 0, rfl, Nat.le_refl _, Kd.C_nil _ _ _⟩
  · have hlm : len ≤ m := by rw [hmm]; split <;> omega
    rw [he] at hx
    have each : ∀ i, i < len → ∃ (y : α) (c : List Value), d.K W y c ∧ ∀ (j : Nat) u, c[j]? = some u → W.cell? (a.add (i * d.sz + j)) = some u := fun i hi => by
      obtain ⟨cs', h1, h2⟩ := hx i (by omega)
      obtain ⟨y, hy⟩ := ho _ _ _ _ _ _ _ _ _ h2
      obtain ⟨_, hlen, hcell⟩ := World.cells?_some h1
      refine ⟨y, cs', hy, fun j u hu => ?_⟩
      have hj := (List.getElem?_eq_some_iff.1 hu).1
      rw [← Go.Deep.add_add, hcell j (by omega), hu]
    have mk : ∀ k, k ≤ len → ∃ ys : List α, ys.length = k ∧ ∀ (i : Nat) y, ys[i]? = some y → ∃ c, d.K W y c ∧ ∀ (j : Nat) u, c[j]? = some u → W.cell? (a.add (i * d.sz + j)) = some u := fun k => by
      induction k with
      | zero => exact fun _ => ⟨[], rfl, fun i y h => by simp at h⟩
      | succ k ih =>
        intro hk
        obtain ⟨ys, h1, h2⟩ := ih (by omega)
        obtain ⟨y, c, h3, h4⟩ := each k (by omega)
        refine ⟨ys ++ [y], by simp [h1], fun i z hz => ?_⟩
        by_cases hi : i < k
        · rw [List.getElem?_append_left (by omega)] at hz
          exact h2 i z hz
        · rw [List.getElem?_append_right (by omega), h1] at hz
          cases hik : i - k with
          | succ q => rw [hik] at hz; simp at hz
          | zero =>
            rw [hik] at hz
            obtain rfl : y = z := by simpa using hz
            obtain rfl : i = k := by omega
            exact ⟨c, h3, h4⟩
    obtain ⟨ys, h1, h2⟩ := mk len (Nat.le_refl _)
    subst h1
    exact ⟨ys, _, rfl, some a, cap, rfl, hl, by unfold maxLen at hm; omega, fun _ => ⟨a, rfl, h2⟩⟩
/-- A struct's fields. -/
theorem opens_fields {H : Type} {enc : TypeId × Value → H} {W : World} {base : Nat} {spare : Nat → Bool} {held : Bool} {fuel : Nat} {cs : List Value} {x : DataW H × List MemPlace} {t : TypeId} {fs : Array Field} (ht : Try.prog.underlying t = some (.struct fs)) (h : DataW.trod enc Try.prog W base spare held fuel t cs = some x) :
    cs.length = Try.prog.cellsOf t ∧ ∀ (i : Nat) (f : Field) (α : Type) (d : Kd α) (T : TypeId) (o n : Nat), fs[i]? = some f → f.type = T → f.offset = o → Try.prog.cellsOf T = n → Opens T d → ∃ a : α, d.K W a ((cs.drop o).take n) := by
  obtain ⟨xs, n, _, _, hl, hxl, hf⟩ := DataW.trod_struct ht h
  refine ⟨hl, fun i f α d T o m hi hT ho2 hm ho => ?_⟩
  subst hT ho2 hm
  have h1 := hf i f hi
  have hil := (Array.getElem?_eq_some_iff.1 hi).1
  rw [List.getElem?_eq_getElem (by rw [hxl]; exact hil)] at h1
  exact ho _ _ _ _ _ _ _ _ _ h1
theorem opens_ints : Opens 22 (Kd.int .i64).slice := opens_slice Try.underlying22 (by kernel_rfl) (opens_int Try.underlying3)
theorem opens_conf : Opens 29 kConf.slice := opens_slice Try.underlying29 (by kernel_rfl) opens_ints
theorem opens_link : Opens 60 kLink := fun H enc W base spare held fuel cs x h => by
  obtain ⟨hl, hf⟩ := opens_fields Try.underlying60 h
  obtain ⟨a, ha⟩ := hf 0 _ _ (Kd.int .i64) _ 0 1 rfl rfl rfl (by kernel_rfl) (opens_int Try.underlying3)
  obtain ⟨b, hb⟩ := hf 1 _ _ (Kd.int .i64) _ 1 1 rfl rfl rfl (by kernel_rfl) (opens_int Try.underlying3)
  have c2 : Try.prog.cellsOf 60 = 2 := by kernel_rfl
  rw [c2] at hl
  match cs, hl with
  | [u, v], _ =>
    obtain rfl : u = .int .i64 a := by have h : [u] = [Value.int .i64 a] := ha; simpa using h
    obtain rfl : v = .int .i64 b := by have h : [v] = [Value.int .i64 b] := hb; simpa using h
    exact ⟨⟨a, b⟩, [.int .i64 a], [.int .i64 b], rfl, rfl, rfl⟩
theorem opens_row : Opens 52 kLink.slice := opens_slice Try.underlying52 (by kernel_rfl) opens_link
theorem opens_ports : Opens 25 kLink.slice.slice := opens_slice Try.underlying25 (by kernel_rfl) opens_row
section
variable {H : Type} {enc : TypeId × Value → H} {W : World} {base b0 : Nat} {spare : Nat → Bool} {held : Bool} {r : Reach} {v : Value} {d : DataW H} {p : List MemPlace}
theorem one_slice {α : Type} {k : Kd α} {u : Value} {a : List α} (h : k.slice.K W a [u]) : k.SL W u a := by
  obtain ⟨v, e, hs⟩ := h
  obtain rfl : u = v := by simpa using e
  exact hs
/-- A graph that came in. -/
theorem open_graph (hv : Value.okWide Try.prog W r b0 27 v) (h : DataW.Trod enc Try.prog W base spare held 27 v d p) :
    ∃ (g : Graph) (A0 : Option Addr) (c0 : Nat) (A1 : Option Addr) (c1 : Nat), v = .agg #[.slice A0 g.ids.length c0, .slice A1 g.ports.length c1] ∧ IsGraph W A0 c0 A1 c1 g := by
  obtain ⟨cs, rfl, hsz⟩ := okWide_struct Try.underlying27 hv
  obtain ⟨l⟩ := cs
  obtain ⟨fuel, hf⟩ := h
  obtain ⟨hl, hg⟩ := opens_fields Try.underlying27 hf
  obtain ⟨ids, h0⟩ := hg 0 _ _ (Kd.int .i64).slice _ 0 1 rfl rfl rfl (by kernel_rfl) opens_ints
  obtain ⟨ports, h1⟩ := hg 1 _ _ kLink.slice.slice _ 1 1 rfl rfl rfl (by kernel_rfl) opens_ports
  have c3 : Try.prog.cellsOf 27 = 2 := by kernel_rfl
  rw [c3] at hl
  have hl' : l.length = 2 := hl
  match l, hl' with
  | [u0, u1], _ =>
    obtain ⟨A0, k0, rfl, m0, q0⟩ := one_slice (u := u0) h0
    obtain ⟨A1, k1, rfl, m1, q1⟩ := one_slice (u := u1) h1
    exact ⟨⟨ids, ports⟩, A0, k0, A1, k1, rfl, ⟨q0, m0, q1, m1⟩⟩
/-- A list of numbers, a configuration that came in. -/
theorem open_list {t : TypeId} {α : Type} {k : Kd α} (ho : Opens t k.slice) (ht : ∃ e, Try.prog.underlying t = some (.slice e)) (hv : Value.okWide Try.prog W r b0 t v) (h : DataW.Trod enc Try.prog W base spare held t v d p) : ∃ xs, k.SL W v xs := by
  obtain ⟨e, ht⟩ := ht
  obtain ⟨a, len, cap, rfl⟩ := okWide_slice ht hv
  obtain ⟨fuel, hf⟩ := h
  obtain ⟨xs, hx⟩ := ho _ _ _ _ _ _ _ _ _ hf
  exact ⟨xs, one_slice hx⟩
end
end Go.Proofs.Ythapikakneikbaa
