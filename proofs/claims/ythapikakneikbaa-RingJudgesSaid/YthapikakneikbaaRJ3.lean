/-
  Lemmas and walks for this claim, part 3: GgraphDistances, Gselfstabref01In, RefBridge, Gselfstabref01Valid, Gselfstabref01Distances, PDist, GEq1, Gselfstablaw29large, GringFit, GshapeHolds, Gringconfiguration, Gringdiffer, GringLegit, GringPrivileged, MadeBridge, Ring, RingBridge.
-/
import Derived.Test.YthapikakneikbaaRJ2
namespace Go.Proofs.YthapikakneikbaaG
open Go.RowKit Go.Proofs.YthapikakneikbaaW.PrintWords Go.Proofs.YthapikakneikbaaW.PrintLast Go.Proofs.YthapikakneikbaaW.PrintMore
attribute [local go_sem] max2_int min2_int max_two min_two max_three min_three max_four min_four   -- for this text's walks alone
set_option linter.unusedVariables false
set_option linter.unusedSimpArgs false
/-! ### graph_Distances: function 90 -/
mutual
def graph_Distances.l0 : Nat → Int → List Int → Int → Int → List Int → List (List (S60)) → Option (List Int)
 | 0, _, _, _, _, _, _ => none
 | k + 1, x1, x5, x21, x22, x435000, x435001 => if x22 < x21 then (if 0 ≤ x22 then (if x22 < (x5.length : Int) then (graph_Distances.l0 k x1 (x5.set (x22 : Int).toNat (-1)) x21 (wrap64 (x22 + 1)) x435000 x435001) else (none)) else (none)) else (if 0 ≤ x1 then (graph_Distances.l1 k x5 0 0 (shl .u32 1 x1) x435000 x435001) else (none))
def graph_Distances.l1 : Nat → List Int → Int → Int → Int → List Int → List (List (S60)) → Option (List Int)
 | 0, _, _, _, _, _, _ => none
 | k + 1, x5, x7, x8, x9, x435000, x435001 => if x9 = 0 then (some x5) else (graph_Distances.l2 k x5 (Go.bits .or .u32 x7 x9) x8 x9 0 (x5.length : Int) 0 x435000 x435001)
def graph_Distances.l2 : Nat → List Int → Int → Int → Int → Int → Int → Int → List Int → List (List (S60)) → Option (List Int)
 | 0, _, _, _, _, _, _, _, _, _ => none
 | k + 1, x5, x7, x8, x9, x10, x39, x40, x435000, x435001 => if x40 < x39 then (if 0 ≤ x40 then (if (Go.bits .and .u32 (shr .u32 x9 x40) 1) = 1 then (if x40 < (x5.length : Int) then ((graph_around.f x435000 x435001 x40).bind fun t441 => (graph_Distances.l2 k (x5.set (x40 : Int).toNat x8) x7 x8 x9 (Go.bits .or .u32 x10 t441) x39 (wrap64 (x40 + 1)) x435000 x435001)) else (none)) else (graph_Distances.l2 k x5 x7 x8 x9 x10 x39 (wrap64 (x40 + 1)) x435000 x435001)) else (none)) else (graph_Distances.l1 k x5 x7 (wrap64 (x8 + 1)) (Go.bits .andNot .u32 x10 x7) x435000 x435001)
end
def graph_Distances.f (k : Nat) (l0_0 : List Int) (l0_1 : List (List (S60))) (a1 : Int) : Option (List Int) := (graph_node.f l0_0 l0_1 a1).bind fun t435 => (if t435 = true then (if 0 ≤ (l0_1.length : Int) then (if ((l0_1.length : Int) : Int).toNat ≤ 35184372088832 then ((some (List.replicate ((l0_1.length : Int) : Int).toNat 0 : List Int)).bind fun y436 => (graph_Distances.l0 k a1 y436 (y436.length : Int) 0 l0_0 l0_1)) else (none)) else (none)) else (some ([] : List Int)))
theorem graph_Distances.mono_l : ∀ k, (∀ y0 y1 y2 y3 y4 y5, LeO (graph_Distances.l0 k y0 y1 y2 y3 y4 y5) (graph_Distances.l0 (k + 1) y0 y1 y2 y3 y4 y5)) ∧ (∀ y0 y1 y2 y3 y4 y5, LeO (graph_Distances.l1 k y0 y1 y2 y3 y4 y5) (graph_Distances.l1 (k + 1) y0 y1 y2 y3 y4 y5)) ∧ (∀ y0 y1 y2 y3 y4 y5 y6 y7 y8, LeO (graph_Distances.l2 k y0 y1 y2 y3 y4 y5 y6 y7 y8) (graph_Distances.l2 (k + 1) y0 y1 y2 y3 y4 y5 y6 y7 y8))
 | 0 => ⟨fun _ _ _ _ _ _ r h => by simp [graph_Distances.l0] at h, fun _ _ _ _ _ _ r h => by simp [graph_Distances.l1] at h, fun _ _ _ _ _ _ _ _ _ r h => by simp [graph_Distances.l2] at h⟩
 | k + 1 => by
  obtain ⟨ih0, ih1, ih2⟩ := graph_Distances.mono_l k
  refine ⟨?_, ?_, ?_⟩
  ·
   intro y0 y1 y2 y3 y4 y5
   unfold graph_Distances.l0
   repeat' first
   | (with_reducible exact ih0 _ _ _ _ _ _)
   | (with_reducible exact ih1 _ _ _ _ _ _)
   | (with_reducible exact ih2 _ _ _ _ _ _ _ _ _)
   | (with_reducible exact LeO.refl _)
   | (with_reducible exact LeO.none _)
   | (with_reducible refine LeO.ite ?_ ?_)
   | (with_reducible refine LeO.bind ?_ (fun _ => ?_))
   | exact ih0 _ _ _ _ _ _
   | exact ih1 _ _ _ _ _ _
   | exact ih2 _ _ _ _ _ _ _ _ _
   | exact LeO.none _
   | refine LeO.ite ?_ ?_
   | refine LeO.bind ?_ (fun _ => ?_)
  ·
   intro y0 y1 y2 y3 y4 y5
   unfold graph_Distances.l1
   repeat' first
   | (with_reducible exact ih0 _ _ _ _ _ _)
   | (with_reducible exact ih1 _ _ _ _ _ _)
   | (with_reducible exact ih2 _ _ _ _ _ _ _ _ _)
   | (with_reducible exact LeO.refl _)
   | (with_reducible exact LeO.none _)
   | (with_reducible refine LeO.ite ?_ ?_)
   | (with_reducible refine LeO.bind ?_ (fun _ => ?_))
   | exact ih0 _ _ _ _ _ _
   | exact ih1 _ _ _ _ _ _
   | exact ih2 _ _ _ _ _ _ _ _ _
   | exact LeO.none _
   | refine LeO.ite ?_ ?_
   | refine LeO.bind ?_ (fun _ => ?_)
  ·
   intro y0 y1 y2 y3 y4 y5 y6 y7 y8
   unfold graph_Distances.l2
   repeat' first
   | (with_reducible exact ih0 _ _ _ _ _ _)
   | (with_reducible exact ih1 _ _ _ _ _ _)
   | (with_reducible exact ih2 _ _ _ _ _ _ _ _ _)
   | (with_reducible exact LeO.refl _)
   | (with_reducible exact LeO.none _)
   | (with_reducible refine LeO.ite ?_ ?_)
   | (with_reducible refine LeO.bind ?_ (fun _ => ?_))
   | exact ih0 _ _ _ _ _ _
   | exact ih1 _ _ _ _ _ _
   | exact ih2 _ _ _ _ _ _ _ _ _
   | exact LeO.none _
   | refine LeO.ite ?_ ?_
   | refine LeO.bind ?_ (fun _ => ?_)
theorem graph_Distances.mono : ∀ a0 a1 a2 k, LeO (graph_Distances.f k a0 a1 a2) (graph_Distances.f (k + 1) a0 a1 a2) := by
 intro a0 a1 a2 k
 obtain ⟨ih0, ih1, ih2⟩ := graph_Distances.mono_l k
 unfold graph_Distances.f
 repeat' first
   | (with_reducible exact ih0 _ _ _ _ _ _)
   | (with_reducible exact ih1 _ _ _ _ _ _)
   | (with_reducible exact ih2 _ _ _ _ _ _ _ _ _)
   | (with_reducible exact LeO.refl _)
   | (with_reducible exact LeO.none _)
   | (with_reducible refine LeO.ite ?_ ?_)
   | (with_reducible refine LeO.bind ?_ (fun _ => ?_))
   | exact ih0 _ _ _ _ _ _
   | exact ih1 _ _ _ _ _ _
   | exact ih2 _ _ _ _ _ _ _ _ _
   | exact LeO.none _
   | refine LeO.ite ?_ ?_
   | refine LeO.bind ?_ (fun _ => ?_)
set_option maxHeartbeats 8000000 in
set_option maxRecDepth 100000 in
theorem graph_Distances.calls (k : Nat) (A0_0 : Option Addr) (c0_0 : Nat) (l0_0 : List Int) (A0_1 : Option Addr) (c0_1 : Nat) (l0_1 : List (List (S60))) (a1 : Int) (r : List Int) (w : World) (hr0_0 : Kd.C (Kd.int .i64) w A0_0 l0_0.length l0_0) (hc0_0 : l0_0.length ≤ c0_0) (hr0_1 : Kd.C (Kd.slice 60 k60) w A0_1 l0_1.length l0_1) (hc0_1 : l0_1.length ≤ c0_1) (h : graph_Distances.f k l0_0 l0_1 a1 = some r) :
  Calls Try.prog 90 #[.agg #[.slice A0_0 l0_0.length c0_0, .slice A0_1 l0_1.length c0_1], .int .i64 a1] w fun e w' => ∃ v0_ : Value, e = .returned (v0_) ∧ Kd.R (Kd.int .i64) 3 w' w.heap.size (fun _ => True) v0_ r ∧ Below w.heap.size w w' := by
 have hu27 := Try.underlying27
 have HR0_0 := Aside0.mk hr0_0
 have HC0_0 := Aside0.mk hc0_0
 clear hr0_0 hc0_0
 have HR0_1 := Aside0.mk hr0_1
 have HC0_1 := Aside0.mk hc0_1
 clear hr0_1 hc0_1
 have HB := Aside0.mk (Below.refl w.heap.size w)
 have H : ((graph_node.f l0_0 l0_1 a1).bind fun t435 => (if t435 = true then (if 0 ≤ (l0_1.length : Int) then (if ((l0_1.length : Int) : Int).toNat ≤ 35184372088832 then ((some (List.replicate ((l0_1.length : Int) : Int).toNat 0 : List Int)).bind fun y436 => (graph_Distances.l0 k a1 y436 (y436.length : Int) 0 l0_0 l0_1)) else (none)) else (none)) else (some ([] : List Int)))) = some r := h
 clear h
 replace H := Option.bind_eq_some_iff.mp H
 obtain ⟨t435, A30, H⟩ := H
 replace H : (if t435 = true then (if 0 ≤ (l0_1.length : Int) then (if ((l0_1.length : Int) : Int).toNat ≤ 35184372088832 then ((some (List.replicate ((l0_1.length : Int) : Int).toNat 0 : List Int)).bind fun y436 => (graph_Distances.l0 k a1 y436 (y436.length : Int) 0 l0_0 l0_1)) else (none)) else (none)) else (some ([] : List Int))) = some r := H
 have A3 := Aside0.mk A30
 clear A30
 by_cases c4 : t435 = true
 ·
  subst c4
  have H1 : (if 0 ≤ (l0_1.length : Int) then (if ((l0_1.length : Int) : Int).toNat ≤ 35184372088832 then ((some (List.replicate ((l0_1.length : Int) : Int).toNat 0 : List Int)).bind fun y436 => (graph_Distances.l0 k a1 y436 (y436.length : Int) 0 l0_0 l0_1)) else (none)) else (none)) = some r := by rw [if_pos rfl] at H; exact H
  clear H
  have H := H1
  clear H1
  by_cases c5 : 0 ≤ (l0_1.length : Int)
  ·
   rw [if_pos c5] at H
   have c5b0 := eq_true c5
   have c5b1 : decide (0 ≤ (l0_1.length : Int)) = true := decide_eq_true c5
   clear c5
   by_cases c6 : ((l0_1.length : Int) : Int).toNat ≤ 35184372088832
   ·
    rw [if_pos c6] at H
    have c6b0 := eq_true c6
    have c6b1 : decide (((l0_1.length : Int) : Int).toNat ≤ 35184372088832) = true := decide_eq_true c6
    clear c6
    obtain ⟨y436, hy436⟩ : ∃ y_ : List Int, y_ = (List.replicate ((l0_1.length : Int) : Int).toNat 0) := ⟨_, rfl⟩
    replace H : (graph_Distances.l0 k a1 y436 (y436.length : Int) 0 l0_0 l0_1) = some r := by first | (rw [hy436]; with_reducible exact H) | (have H2_ := (Option.bind_some _ _).symm.trans H; rw [hy436]; with_reducible exact H2_) | (have H2_ := (Option.bind_some _ _).symm.trans H; with_reducible exact H2_) | with_reducible exact H | (rw [hy436]; exact H) | exact H
    have Ny436 := Aside0.mk hy436
    clear hy436
    have H' := Aside0.mk H
    clear H
    go_enter Try.func90, Try.ntmps90
    go_wp2_with (first | ((with_reducible refine gate_dst (N := 2) rfl ?_); refine box_event ?hg (N := 2) ?hd (cs := #[.slice A0_0 l0_0.length c0_0, .slice A0_1 l0_1.length c0_1]) (t := 27) ?hr ?_; (case hd => rfl); (case hg => rfl); (case hr => first | (go_simp; done) | (go_simp; rfl)); intro gb434 hg w7 hbox hb; have n0_ := Aside0.mk (below_step (by repeat (first | (with_reducible first | exact HB.out | apply below_alloc | apply pw_below_drewN | apply below_drew1) | exact HB.out)) hb); have n1_ := Aside0.mk (hbox); have n2_ := Aside0.mk ((by rw [hg]; exact (below_size (by repeat (first | (with_reducible first | exact HB.out | apply below_alloc | apply pw_below_drewN | apply below_drew1) | exact HB.out))) : w.heap.size ≤ gb434)); have n3_ := Aside0.mk ((by rw [hg]; exact (below_size (by repeat (first | (with_reducible first | exact HB.out | apply below_alloc | apply pw_below_drewN | apply below_drew1) | exact HB.out))) : w.heap.size ≤ gb434)); clear HB; have HB := n0_; have BK434 := n1_; have GW434 := n2_; have GE434 := n3_; clear n0_ n1_ n2_ n3_; clear hb hbox hg; have hcz8_0 : w7.cell? ⟨gb434, 0, none⟩ = some (.slice A0_0 l0_0.length c0_0) := (blk_cell BK434.out 0).trans rfl; have hcz8_1 : w7.cell? ⟨gb434, 1, none⟩ = some (.slice A0_1 l0_1.length c0_1) := (blk_cell BK434.out 1).trans rfl; have hfz8_0 := blk_frozen BK434.out 0; have hfz8_1 := blk_frozen BK434.out 1) | (go_at_call 124; (with_reducible refine (graph_node.calls _ _ l0_0 _ _ l0_1 a1 true _ ?side1 ?side2 ?side3 ?side4 A3.out).mono ?_); (case side1 => repeat (first | exact (Kd.C_below HR0_0.out HB.out) | (with_reducible refine Kd.C_alloc ?_ _) | (with_reducible refine Kd.C_drewN ?_ _) | (with_reducible refine Kd.C_drew ?_))); (case side2 => exact HC0_0.out); (case side3 => repeat (first | exact (Kd.C_below HR0_1.out HB.out) | (with_reducible refine Kd.C_alloc ?_ _) | (with_reducible refine Kd.C_drewN ?_ _) | (with_reducible refine Kd.C_drew ?_))); (case side4 => exact HC0_1.out); rintro e w9 ⟨rfl, hb⟩; have n0_ := Aside0.mk (blk_below (g := gb434) (o := .cells #[.slice A0_0 l0_0.length c0_0, .slice A0_1 l0_1.length c0_1] 27 (0, 0)) (by (with_reducible repeat (first | refine blk_drewN ?_ _ | refine blk_drew ?_ | refine blk_alloc ?_ _)); exact BK434.out) hb); have n1_ := Aside0.mk (below_step (by repeat (first | (with_reducible first | exact HB.out | apply below_alloc | apply pw_below_drewN | apply below_drew1 | refine below_set ?_ GE434.out) | exact HB.out)) hb); clear BK434; clear HB; have BK434 := n0_; have HB := n1_; clear n0_ n1_; (try clear hb); (try clear hb2); (try clear hk); (try clear hi); have hcz10_0 : w9.cell? ⟨gb434, 0, none⟩ = some (.slice A0_0 l0_0.length c0_0) := (blk_cell BK434.out 0).trans rfl; have hcz10_1 : w9.cell? ⟨gb434, 1, none⟩ = some (.slice A0_1 l0_1.length c0_1) := (blk_cell BK434.out 1).trans rfl; have hfz10_0 := blk_frozen BK434.out 0; have hfz10_1 := blk_frozen BK434.out 1) | ((with_reducible refine gate_dst (N := 19) rfl ?_); refine Kd.R_make (Kd.int .i64) _ 3 rfl (N := 19) rfl 22 _ _ rfl (l0_1.length : Int) rfl rfl Try.underlying22 (.int .i64 0) 8 info3 rfl (by decide) (by omega) 0 (ok := fun _ => True) (okp := fun _ => True) rfl (fun _ hk => hk) trivial (of_decide_eq_true (by first | (with_reducible assumption) | assumption)) (Nat.le_trans (Nat.mul_le_mul_right _ (of_decide_eq_true (by first | (with_reducible assumption) | assumption) : (l0_1.length : Int).toNat ≤ 35184372088832)) (by omega)) (Below.refl _ _) (Nat.le_refl _) ?_; intro v437 w11 ho12 hb hg_ hnew_; clear hg_ hnew_; (first | rw [← Ny436.out] at ho12 | (simp only [Int.reduceToNat] at ho12; rw [← Ny436.out] at ho12)); have n0_ := Aside0.mk (Kd.R_lower ho12 (below_size (by repeat (first | (with_reducible first | exact HB.out | apply below_alloc | apply pw_below_drewN | apply below_drew1 | refine below_set ?_ GE434.out) | exact HB.out)))); have n1_ := Aside0.mk (blk_below (g := gb434) (o := .cells #[.slice A0_0 l0_0.length c0_0, .slice A0_1 l0_1.length c0_1] 27 (0, 0)) (by (with_reducible repeat (first | refine blk_drewN ?_ _ | refine blk_drew ?_ | refine blk_alloc ?_ _)); exact BK434.out) hb); have n2_ := Aside0.mk (below_step (by repeat (first | (with_reducible first | exact HB.out | apply below_alloc | apply pw_below_drewN | apply below_drew1 | refine below_set ?_ GE434.out) | exact HB.out)) hb); clear BK434; clear HB; have HO438 := n0_; have BK434 := n1_; have HB := n2_; clear n0_ n1_ n2_; clear hb ho12; obtain ⟨Ao13, co13, eo13⟩ := Kd.R_slice HO438.out; subst eo13))
    repeat (go_quiet (first | ((with_reducible refine gate_dst (N := 2) rfl ?_); refine box_event ?hg (N := 2) ?hd (cs := #[.slice A0_0 l0_0.length c0_0, .slice A0_1 l0_1.length c0_1]) (t := 27) ?hr ?_; (case hd => rfl); (case hg => rfl); (case hr => first | (go_simp; done) | (go_simp; rfl)); intro gb434 hg w7 hbox hb; have n0_ := Aside0.mk (below_step (by repeat (first | (with_reducible first | exact HB.out | apply below_alloc | apply pw_below_drewN | apply below_drew1) | exact HB.out)) hb); have n1_ := Aside0.mk (hbox); have n2_ := Aside0.mk ((by rw [hg]; exact (below_size (by repeat (first | (with_reducible first | exact HB.out | apply below_alloc | apply pw_below_drewN | apply below_drew1) | exact HB.out))) : w.heap.size ≤ gb434)); have n3_ := Aside0.mk ((by rw [hg]; exact (below_size (by repeat (first | (with_reducible first | exact HB.out | apply below_alloc | apply pw_below_drewN | apply below_drew1) | exact HB.out))) : w.heap.size ≤ gb434)); clear HB; have HB := n0_; have BK434 := n1_; have GW434 := n2_; have GE434 := n3_; clear n0_ n1_ n2_ n3_; clear hb hbox hg; have hcz8_0 : w7.cell? ⟨gb434, 0, none⟩ = some (.slice A0_0 l0_0.length c0_0) := (blk_cell BK434.out 0).trans rfl; have hcz8_1 : w7.cell? ⟨gb434, 1, none⟩ = some (.slice A0_1 l0_1.length c0_1) := (blk_cell BK434.out 1).trans rfl; have hfz8_0 := blk_frozen BK434.out 0; have hfz8_1 := blk_frozen BK434.out 1) | (go_at_call 124; (with_reducible refine (graph_node.calls _ _ l0_0 _ _ l0_1 a1 true _ ?side1 ?side2 ?side3 ?side4 A3.out).mono ?_); (case side1 => repeat (first | exact (Kd.C_below HR0_0.out HB.out) | (with_reducible refine Kd.C_alloc ?_ _) | (with_reducible refine Kd.C_drewN ?_ _) | (with_reducible refine Kd.C_drew ?_))); (case side2 => exact HC0_0.out); (case side3 => repeat (first | exact (Kd.C_below HR0_1.out HB.out) | (with_reducible refine Kd.C_alloc ?_ _) | (with_reducible refine Kd.C_drewN ?_ _) | (with_reducible refine Kd.C_drew ?_))); (case side4 => exact HC0_1.out); rintro e w9 ⟨rfl, hb⟩; have n0_ := Aside0.mk (blk_below (g := gb434) (o := .cells #[.slice A0_0 l0_0.length c0_0, .slice A0_1 l0_1.length c0_1] 27 (0, 0)) (by (with_reducible repeat (first | refine blk_drewN ?_ _ | refine blk_drew ?_ | refine blk_alloc ?_ _)); exact BK434.out) hb); have n1_ := Aside0.mk (below_step (by repeat (first | (with_reducible first | exact HB.out | apply below_alloc | apply pw_below_drewN | apply below_drew1 | refine below_set ?_ GE434.out) | exact HB.out)) hb); clear BK434; clear HB; have BK434 := n0_; have HB := n1_; clear n0_ n1_; (try clear hb); (try clear hb2); (try clear hk); (try clear hi); have hcz10_0 : w9.cell? ⟨gb434, 0, none⟩ = some (.slice A0_0 l0_0.length c0_0) := (blk_cell BK434.out 0).trans rfl; have hcz10_1 : w9.cell? ⟨gb434, 1, none⟩ = some (.slice A0_1 l0_1.length c0_1) := (blk_cell BK434.out 1).trans rfl; have hfz10_0 := blk_frozen BK434.out 0; have hfz10_1 := blk_frozen BK434.out 1) | ((with_reducible refine gate_dst (N := 19) rfl ?_); refine Kd.R_make (Kd.int .i64) _ 3 rfl (N := 19) rfl 22 _ _ rfl (l0_1.length : Int) rfl rfl Try.underlying22 (.int .i64 0) 8 info3 rfl (by decide) (by omega) 0 (ok := fun _ => True) (okp := fun _ => True) rfl (fun _ hk => hk) trivial (of_decide_eq_true (by first | (with_reducible assumption) | assumption)) (Nat.le_trans (Nat.mul_le_mul_right _ (of_decide_eq_true (by first | (with_reducible assumption) | assumption) : (l0_1.length : Int).toNat ≤ 35184372088832)) (by omega)) (Below.refl _ _) (Nat.le_refl _) ?_; intro v437 w11 ho12 hb hg_ hnew_; clear hg_ hnew_; (first | rw [← Ny436.out] at ho12 | (simp only [Int.reduceToNat] at ho12; rw [← Ny436.out] at ho12)); have n0_ := Aside0.mk (Kd.R_lower ho12 (below_size (by repeat (first | (with_reducible first | exact HB.out | apply below_alloc | apply pw_below_drewN | apply below_drew1 | refine below_set ?_ GE434.out) | exact HB.out)))); have n1_ := Aside0.mk (blk_below (g := gb434) (o := .cells #[.slice A0_0 l0_0.length c0_0, .slice A0_1 l0_1.length c0_1] 27 (0, 0)) (by (with_reducible repeat (first | refine blk_drewN ?_ _ | refine blk_drew ?_ | refine blk_alloc ?_ _)); exact BK434.out) hb); have n2_ := Aside0.mk (below_step (by repeat (first | (with_reducible first | exact HB.out | apply below_alloc | apply pw_below_drewN | apply below_drew1 | refine below_set ?_ GE434.out) | exact HB.out)) hb); clear BK434; clear HB; have HO438 := n0_; have BK434 := n1_; have HB := n2_; clear n0_ n1_ n2_; clear hb ho12; obtain ⟨Ao13, co13, eo13⟩ := Kd.R_slice HO438.out; subst eo13)); try go_wp2_with (first | ((with_reducible refine gate_dst (N := 2) rfl ?_); refine box_event ?hg (N := 2) ?hd (cs := #[.slice A0_0 l0_0.length c0_0, .slice A0_1 l0_1.length c0_1]) (t := 27) ?hr ?_; (case hd => rfl); (case hg => rfl); (case hr => first | (go_simp; done) | (go_simp; rfl)); intro gb434 hg w7 hbox hb; have n0_ := Aside0.mk (below_step (by repeat (first | (with_reducible first | exact HB.out | apply below_alloc | apply pw_below_drewN | apply below_drew1) | exact HB.out)) hb); have n1_ := Aside0.mk (hbox); have n2_ := Aside0.mk ((by rw [hg]; exact (below_size (by repeat (first | (with_reducible first | exact HB.out | apply below_alloc | apply pw_below_drewN | apply below_drew1) | exact HB.out))) : w.heap.size ≤ gb434)); have n3_ := Aside0.mk ((by rw [hg]; exact (below_size (by repeat (first | (with_reducible first | exact HB.out | apply below_alloc | apply pw_below_drewN | apply below_drew1) | exact HB.out))) : w.heap.size ≤ gb434)); clear HB; have HB := n0_; have BK434 := n1_; have GW434 := n2_; have GE434 := n3_; clear n0_ n1_ n2_ n3_; clear hb hbox hg; have hcz8_0 : w7.cell? ⟨gb434, 0, none⟩ = some (.slice A0_0 l0_0.length c0_0) := (blk_cell BK434.out 0).trans rfl; have hcz8_1 : w7.cell? ⟨gb434, 1, none⟩ = some (.slice A0_1 l0_1.length c0_1) := (blk_cell BK434.out 1).trans rfl; have hfz8_0 := blk_frozen BK434.out 0; have hfz8_1 := blk_frozen BK434.out 1) | (go_at_call 124; (with_reducible refine (graph_node.calls _ _ l0_0 _ _ l0_1 a1 true _ ?side1 ?side2 ?side3 ?side4 A3.out).mono ?_); (case side1 => repeat (first | exact (Kd.C_below HR0_0.out HB.out) | (with_reducible refine Kd.C_alloc ?_ _) | (with_reducible refine Kd.C_drewN ?_ _) | (with_reducible refine Kd.C_drew ?_))); (case side2 => exact HC0_0.out); (case side3 => repeat (first | exact (Kd.C_below HR0_1.out HB.out) | (with_reducible refine Kd.C_alloc ?_ _) | (with_reducible refine Kd.C_drewN ?_ _) | (with_reducible refine Kd.C_drew ?_))); (case side4 => exact HC0_1.out); rintro e w9 ⟨rfl, hb⟩; have n0_ := Aside0.mk (blk_below (g := gb434) (o := .cells #[.slice A0_0 l0_0.length c0_0, .slice A0_1 l0_1.length c0_1] 27 (0, 0)) (by (with_reducible repeat (first | refine blk_drewN ?_ _ | refine blk_drew ?_ | refine blk_alloc ?_ _)); exact BK434.out) hb); have n1_ := Aside0.mk (below_step (by repeat (first | (with_reducible first | exact HB.out | apply below_alloc | apply pw_below_drewN | apply below_drew1 | refine below_set ?_ GE434.out) | exact HB.out)) hb); clear BK434; clear HB; have BK434 := n0_; have HB := n1_; clear n0_ n1_; (try clear hb); (try clear hb2); (try clear hk); (try clear hi); have hcz10_0 : w9.cell? ⟨gb434, 0, none⟩ = some (.slice A0_0 l0_0.length c0_0) := (blk_cell BK434.out 0).trans rfl; have hcz10_1 : w9.cell? ⟨gb434, 1, none⟩ = some (.slice A0_1 l0_1.length c0_1) := (blk_cell BK434.out 1).trans rfl; have hfz10_0 := blk_frozen BK434.out 0; have hfz10_1 := blk_frozen BK434.out 1) | ((with_reducible refine gate_dst (N := 19) rfl ?_); refine Kd.R_make (Kd.int .i64) _ 3 rfl (N := 19) rfl 22 _ _ rfl (l0_1.length : Int) rfl rfl Try.underlying22 (.int .i64 0) 8 info3 rfl (by decide) (by omega) 0 (ok := fun _ => True) (okp := fun _ => True) rfl (fun _ hk => hk) trivial (of_decide_eq_true (by first | (with_reducible assumption) | assumption)) (Nat.le_trans (Nat.mul_le_mul_right _ (of_decide_eq_true (by first | (with_reducible assumption) | assumption) : (l0_1.length : Int).toNat ≤ 35184372088832)) (by omega)) (Below.refl _ _) (Nat.le_refl _) ?_; intro v437 w11 ho12 hb hg_ hnew_; clear hg_ hnew_; (first | rw [← Ny436.out] at ho12 | (simp only [Int.reduceToNat] at ho12; rw [← Ny436.out] at ho12)); have n0_ := Aside0.mk (Kd.R_lower ho12 (below_size (by repeat (first | (with_reducible first | exact HB.out | apply below_alloc | apply pw_below_drewN | apply below_drew1 | refine below_set ?_ GE434.out) | exact HB.out)))); have n1_ := Aside0.mk (blk_below (g := gb434) (o := .cells #[.slice A0_0 l0_0.length c0_0, .slice A0_1 l0_1.length c0_1] 27 (0, 0)) (by (with_reducible repeat (first | refine blk_drewN ?_ _ | refine blk_drew ?_ | refine blk_alloc ?_ _)); exact BK434.out) hb); have n2_ := Aside0.mk (below_step (by repeat (first | (with_reducible first | exact HB.out | apply below_alloc | apply pw_below_drewN | apply below_drew1 | refine below_set ?_ GE434.out) | exact HB.out)) hb); clear BK434; clear HB; have HO438 := n0_; have BK434 := n1_; have HB := n2_; clear n0_ n1_ n2_; clear hb ho12; obtain ⟨Ao13, co13, eo13⟩ := Kd.R_slice HO438.out; subst eo13)))
    go_loopg [22] k (fun kq v22 w' => ∃ (x5_1 : List Int) (x22_1 : Int), v22 = .int .i64 x22_1 ∧ Aside0 (graph_Distances.l0 kq a1 x5_1 (y436.length : Int) x22_1 l0_0 l0_1 = some r) ∧ Aside0 (kq ≤ k) ∧ Aside0 (Kd.R (Kd.int .i64) 3 w' w.heap.size (fun _ => True) (.slice Ao13 y436.length co13) x5_1) ∧ Aside0 (w'.heap[gb434]? = some (.cells #[(.slice A0_0 l0_0.length c0_0), (.slice A0_1 l0_1.length c0_1)] 27 (0, 0))) ∧ Aside0 (Below w.heap.size w w'))
    case atStart => exact ⟨(y436), (0), (by first | rfl | (simp; done) | (simp [*]; done)), H', ⟨Nat.le_refl _⟩, ⟨by (with_reducible repeat (first | apply Kd.R_alloc | apply Kd.R_drewN | apply Kd.R_drew)); exact HO438.out⟩, ⟨by (with_reducible repeat (first | refine blk_drewN ?_ _ | refine blk_drew ?_ | refine blk_alloc ?_ _)); exact BK434.out⟩, ⟨by repeat (first | (with_reducible first | exact HB.out | apply below_alloc | apply pw_below_drewN | apply below_drew1 | refine below_set ?_ GE434.out) | exact HB.out)⟩⟩
    case round =>
     clear H'
     try clear p2
     try clear c4
     try clear c5
     try clear c5b0
     try clear c5b1
     try clear c6
     try clear c6b0
     try clear c6b1
     try clear c9
     try clear hcz10_0
     try clear hcz10_1
     try clear hcz8_0
     try clear hcz8_1
     try clear hfz10_0
     try clear hfz10_1
     try clear hfz8_0
     try clear hfz8_1
     obtain ⟨x5_1, x22_1, rfl, HA, HK1, HO_5, BK434, HB⟩ := hrel
     have hl5_1 := (Kd.R_reads' HO_5.out).1
     rw [hl5_1] at HO_5
     (try simp only [hl5_1])
     (try simp only [hl5_1] at BK434)
     cases gk with
     | zero => exact absurd HA.out (by simp [graph_Distances.l0])
     | succ k1 =>
      have H := HA.out
      clear HA
      simp only [graph_Distances.l0] at H
      by_cases c14 : x22_1 < (y436.length : Int)
      ·
       rw [if_pos c14] at H
       have c14b0 : decide (x22_1 < (y436.length : Int)) = true := decide_eq_true c14
       (try simp only [hl5_1] at c14b0)
       clear c14
       by_cases c15 : 0 ≤ x22_1
       ·
        rw [if_pos c15] at H
        have c15b0 : decide (0 ≤ x22_1) = true := decide_eq_true c15
        (try simp only [hl5_1] at c15b0)
        clear c15
        by_cases c16 : x22_1 < (x5_1.length : Int)
        ·
         rw [if_pos c16] at H
         have c16b0 : decide (x22_1 < (x5_1.length : Int)) = true := decide_eq_true c16
         (try simp only [hl5_1] at c16b0)
         clear c16
         obtain ⟨y439, hy439⟩ : ∃ y_ : List Int, y_ = (x5_1.set (x22_1 : Int).toNat (-1)) := ⟨_, rfl⟩
         replace H : (graph_Distances.l0 k1 a1 y439 (y436.length : Int) (wrap64 (x22_1 + 1)) l0_0 l0_1) = some r := by first | (rw [hy439]; with_reducible exact H) | (have H2_ := (Option.bind_some _ _).symm.trans H; rw [hy439]; with_reducible exact H2_) | (have H2_ := (Option.bind_some _ _).symm.trans H; with_reducible exact H2_) | with_reducible exact H | (rw [hy439]; exact H) | exact H
         have Ny439 := Aside0.mk hy439
         clear hy439
         have H' := Aside0.mk H
         clear H
         have p17 : 0 ≤ (x22_1 : Int) := of_decide_eq_true (by first | (with_reducible assumption) | assumption)
         have q17 : (x22_1 : Int) < ((x5_1.length : Int) : Int) := of_decide_eq_true (by first | (with_reducible assumption) | assumption)
         obtain ⟨go17, co17, eo17, gb17, gl17, cl17, HG17⟩ := Kd.R_form HO_5.out (by omega)
         (first | cases eo17 | (injection eo17 with ea_ en_ ec_; (first | subst ea_ | (injection ea_ with ea_; subst ea_)); subst ec_; clear en_))
         have GB17 := Aside0.mk gb17
         have GG17 := Aside0.mk HG17
         clear gb17 gl17 HG17
         obtain ⟨hx17_0, hf17_0⟩ := Kd.R_celln 0 HO_5.out (x22_1 : Int) p17 q17
         replace p17 := eq_true p17
         replace q17 := eq_true q17
         have HP18 := Kd.R_putg HO_5.out (x22_1 : Int) (-1)
         go_wp2_with (first | ((with_reducible refine gate_store (t := 3) (p := 27) rfl ?_); (try (rw [drewN_self wr]; generalize hq_ : World.drewN wr _ = wr; have n0_ := Aside0.mk (Kd.R_at hq_ HO_5.out); have n1_ := Aside0.mk (blk_at hq_ BK434.out); have n2_ := Aside0.mk (below_at hq_ HB.out); clear hq_ HO_5 BK434 HB; have HO_5 := n0_; have BK434 := n1_; have HB := n2_; clear n0_ n1_ n2_; (try (have HP18 := Kd.R_putg HO_5.out (x22_1 : Int) (-1))))); refine store_event (t := 3) (p := 27) (v := ?vo_w19) (w1 := (wr.setCell ⟨go17, (x22_1 : Int).toNat, none⟩ (.int .i64 (-1)))) ?hg ?ho ?hn ?hr ?_; (case ho => rfl); (case hg => rfl); (case hn => rfl); (case hr => first | (go_simp; done) | (go_simp; rfl)); intro w19 hw; have hg : wr.grownBy w19 (some go17) := (by rw [hw]; exact HP18.2); have hp_ : Kd.R (Kd.int .i64) 3 w19 w.heap.size (fun _ => True) (.slice (some ⟨go17, 0, none⟩) x5_1.length co13) y439 := (by rw [hw, Ny439.out]; exact HP18.1); clear HP18; have n0_ := Aside0.mk (hp_); have n1_ := Aside0.mk (blk_grown (g := gb434) (o := .cells #[.slice A0_0 l0_0.length c0_0, .slice A0_1 l0_1.length c0_1] 27 (0, 0)) (by (with_reducible repeat (first | refine blk_drewN ?_ _ | refine blk_drew ?_ | refine blk_alloc ?_ _)); exact BK434.out) hg (Kd.R_ne HO_5.out BK434.out (by decide))); have n2_ := Aside0.mk ((by rw [hw]; exact below_set (HB.out) GB17.out : Below w.heap.size w w19)); clear HO_5; clear BK434; clear HB; have HO_5 := n0_; have BK434 := n1_; have HB := n2_; clear n0_ n1_ n2_; clear hg hw hp_))
         repeat (go_quiet (first | ((with_reducible refine gate_store (t := 3) (p := 27) rfl ?_); (try (rw [drewN_self wr]; generalize hq_ : World.drewN wr _ = wr; have n0_ := Aside0.mk (Kd.R_at hq_ HO_5.out); have n1_ := Aside0.mk (blk_at hq_ BK434.out); have n2_ := Aside0.mk (below_at hq_ HB.out); clear hq_ HO_5 BK434 HB; have HO_5 := n0_; have BK434 := n1_; have HB := n2_; clear n0_ n1_ n2_; (try (have HP18 := Kd.R_putg HO_5.out (x22_1 : Int) (-1))))); refine store_event (t := 3) (p := 27) (v := ?vo_w19) (w1 := (wr.setCell ⟨go17, (x22_1 : Int).toNat, none⟩ (.int .i64 (-1)))) ?hg ?ho ?hn ?hr ?_; (case ho => rfl); (case hg => rfl); (case hn => rfl); (case hr => first | (go_simp; done) | (go_simp; rfl)); intro w19 hw; have hg : wr.grownBy w19 (some go17) := (by rw [hw]; exact HP18.2); have hp_ : Kd.R (Kd.int .i64) 3 w19 w.heap.size (fun _ => True) (.slice (some ⟨go17, 0, none⟩) x5_1.length co13) y439 := (by rw [hw, Ny439.out]; exact HP18.1); clear HP18; have n0_ := Aside0.mk (hp_); have n1_ := Aside0.mk (blk_grown (g := gb434) (o := .cells #[.slice A0_0 l0_0.length c0_0, .slice A0_1 l0_1.length c0_1] 27 (0, 0)) (by (with_reducible repeat (first | refine blk_drewN ?_ _ | refine blk_drew ?_ | refine blk_alloc ?_ _)); exact BK434.out) hg (Kd.R_ne HO_5.out BK434.out (by decide))); have n2_ := Aside0.mk ((by rw [hw]; exact below_set (HB.out) GB17.out : Below w.heap.size w w19)); clear HO_5; clear BK434; clear HB; have HO_5 := n0_; have BK434 := n1_; have HB := n2_; clear n0_ n1_ n2_; clear hg hw hp_)); try go_wp2_with (first | ((with_reducible refine gate_store (t := 3) (p := 27) rfl ?_); (try (rw [drewN_self wr]; generalize hq_ : World.drewN wr _ = wr; have n0_ := Aside0.mk (Kd.R_at hq_ HO_5.out); have n1_ := Aside0.mk (blk_at hq_ BK434.out); have n2_ := Aside0.mk (below_at hq_ HB.out); clear hq_ HO_5 BK434 HB; have HO_5 := n0_; have BK434 := n1_; have HB := n2_; clear n0_ n1_ n2_; (try (have HP18 := Kd.R_putg HO_5.out (x22_1 : Int) (-1))))); refine store_event (t := 3) (p := 27) (v := ?vo_w19) (w1 := (wr.setCell ⟨go17, (x22_1 : Int).toNat, none⟩ (.int .i64 (-1)))) ?hg ?ho ?hn ?hr ?_; (case ho => rfl); (case hg => rfl); (case hn => rfl); (case hr => first | (go_simp; done) | (go_simp; rfl)); intro w19 hw; have hg : wr.grownBy w19 (some go17) := (by rw [hw]; exact HP18.2); have hp_ : Kd.R (Kd.int .i64) 3 w19 w.heap.size (fun _ => True) (.slice (some ⟨go17, 0, none⟩) x5_1.length co13) y439 := (by rw [hw, Ny439.out]; exact HP18.1); clear HP18; have n0_ := Aside0.mk (hp_); have n1_ := Aside0.mk (blk_grown (g := gb434) (o := .cells #[.slice A0_0 l0_0.length c0_0, .slice A0_1 l0_1.length c0_1] 27 (0, 0)) (by (with_reducible repeat (first | refine blk_drewN ?_ _ | refine blk_drew ?_ | refine blk_alloc ?_ _)); exact BK434.out) hg (Kd.R_ne HO_5.out BK434.out (by decide))); have n2_ := Aside0.mk ((by rw [hw]; exact below_set (HB.out) GB17.out : Below w.heap.size w w19)); clear HO_5; clear BK434; clear HB; have HO_5 := n0_; have BK434 := n1_; have HB := n2_; clear n0_ n1_ n2_; clear hg hw hp_)))
         (try simp only [← hl5_1])
         go_roundg k1
         case measure => have := HK1.out; omega
         case rel => exact ⟨(y439), (wrap64 (x22_1 + 1)), (by first | rfl | (simp; done) | (simp [*]; done)), H', ⟨by have := HK1.out; omega⟩, ⟨by (try simp only [hl5_1]); (with_reducible repeat (first | apply Kd.R_alloc | apply Kd.R_drewN | apply Kd.R_drew)); exact HO_5.out⟩, ⟨by (try simp only [hl5_1]); (with_reducible repeat (first | refine blk_drewN ?_ _ | refine blk_drew ?_ | refine blk_alloc ?_ _)); exact BK434.out⟩, ⟨by repeat (first | (with_reducible first | exact HB.out | apply below_alloc | apply pw_below_drewN | apply below_drew1 | refine below_set ?_ GE434.out) | exact HB.out)⟩⟩
        ·
         rw [if_neg c16] at H
         exact absurd H (by simp)
       ·
        rw [if_neg c15] at H
        exact absurd H (by simp)
      ·
       rw [if_neg c14] at H
       have c14b0 : decide (x22_1 < (y436.length : Int)) = false := decide_eq_false c14
       (try simp only [hl5_1] at c14b0)
       clear c14
       by_cases c20 : 0 ≤ a1
       ·
        rw [if_pos c20] at H
        have c20b0 := eq_true c20
        have c20b1 : decide (0 ≤ a1) = true := decide_eq_true c20
        (try simp only [hl5_1] at c20b1)
        clear c20
        obtain ⟨ji21, hji21⟩ : ∃ j_ : Int, (shl .u32 1 a1) = j_ := ⟨_, rfl⟩
        replace H : (graph_Distances.l1 k1 x5_1 0 0 ji21 l0_0 l0_1) = some r := by first | (rw [hji21] at H; exact H) | (simp only [hji21] at H ⊢; exact H)
        have hji21_ : (IntKind.u32.wrap (1 * 2 ^ min a1.toNat 32)) = ji21 := hji21
        have hji21z : a1 ≤ 32 → (IntKind.u32.wrap (1 * 2 ^ a1.toNat)) = ji21 := shl_small hji21
        have hji21u : (IntKind.u32.wrap (2 ^ min a1.toNat 32)) = ji21 := by have h_ := hji21_; rw [Int.one_mul] at h_; exact h_
        have hji21v : a1 ≤ 32 → (IntKind.u32.wrap (2 ^ a1.toNat)) = ji21 := fun hle_ => by have h_ := hji21z hle_; rw [Int.one_mul] at h_; exact h_
        have H' := Aside0.mk H
        clear H
        go_wp2
        repeat (go_quiet (fail); try go_wp2)
        go_loopg [7, 8, 9] k1 (fun kq v7 v8 v9 w' => ∃ (x5_2 : List Int) (x7_2 : Int) (x8_2 : Int) (x9_2 : Int), v7 = .int .u32 x7_2 ∧ v8 = .int .i64 x8_2 ∧ v9 = .int .u32 x9_2 ∧ Aside0 (graph_Distances.l1 kq x5_2 x7_2 x8_2 x9_2 l0_0 l0_1 = some r) ∧ Aside0 (kq ≤ k1) ∧ Aside0 (Kd.R (Kd.int .i64) 3 w' w.heap.size (fun _ => True) (.slice Ao13 x5_1.length co13) x5_2) ∧ Aside0 (w'.heap[gb434]? = some (.cells #[(.slice A0_0 l0_0.length c0_0), (.slice A0_1 l0_1.length c0_1)] 27 (0, 0))) ∧ Aside0 (Below w.heap.size w w'))
        case atStart => exact ⟨(x5_1), (0), (0), (ji21), (by first | rfl | (simp; done) | (simp [*]; done)), (by first | rfl | (simp; done) | (simp [*]; done)), (by first | rfl | (simp; done) | (simp only [← hji21] <;> (first | rfl | simp)) | (simp [*]; done)), H', ⟨Nat.le_refl _⟩, ⟨by (try simp only [hl5_1]); (with_reducible repeat (first | apply Kd.R_alloc | apply Kd.R_drewN | apply Kd.R_drew)); exact HO_5.out⟩, ⟨by (try simp only [hl5_1]); (with_reducible repeat (first | refine blk_drewN ?_ _ | refine blk_drew ?_ | refine blk_alloc ?_ _)); exact BK434.out⟩, ⟨by repeat (first | (with_reducible first | exact HB.out | apply below_alloc | apply pw_below_drewN | apply below_drew1 | refine below_set ?_ GE434.out) | exact HB.out)⟩⟩
        case round =>
         clear H'
         try clear c1
         try clear p1
         try clear q1
         try clear hx1
         try clear c2
         try clear p2
         try clear c4
         try clear c5
         try clear c5b0
         try clear c5b1
         try clear c6
         try clear c6b0
         try clear c6b1
         try clear p6
         try clear c9
         try clear c14
         try clear c14b0
         try clear c15
         try clear c15b0
         try clear c16
         try clear c16b0
         try clear p17
         try clear q17
         try clear hx17
         try clear hf17
         try clear c20
         try clear c20b0
         try clear c20b1
         try clear hcz10_0
         try clear hcz10_1
         try clear hcz8_0
         try clear hcz8_1
         try clear hfz10_0
         try clear hfz10_1
         try clear hfz8_0
         try clear hfz8_1
         try clear hx17_0
         try clear p17
         try clear p2
         try clear q17
         obtain ⟨x5_2, x7_2, x8_2, x9_2, rfl, rfl, rfl, HA, HK2, HO_5, BK434, HB⟩ := hrel
         have hl5_2 := (Kd.R_reads' HO_5.out).1
         rw [hl5_2] at HO_5
         (try simp only [hl5_2])
         (try simp only [hl5_2] at BK434)
         cases gk with
         | zero => exact absurd HA.out (by simp [graph_Distances.l1])
         | succ k2 =>
          have H := HA.out
          clear HA
          simp only [graph_Distances.l1] at H
          by_cases c22 : x9_2 = 0
          ·
           rw [if_pos c22] at H
           have c22b0 : (x9_2 == 0) = true := beq_iff_eq.mpr c22
           have c22b1 : (x9_2 != 0) = false := bne_eq_false_iff_eq.mpr c22
           clear c22
           obtain rfl := Option.some.inj H
           go_wp2
           repeat (go_quiet (fail); try go_wp2)
           go_ret
           exact ⟨_, by first | rfl | (simp [errW_none, errW_some] <;> rfl) | (simp only [← hji21]; first | rfl | (simp [errW_none, errW_some] <;> rfl)) | (simp [*, errW_none, errW_some] <;> rfl), by (with_reducible repeat (first | apply Kd.R_alloc | apply Kd.R_drewN | apply Kd.R_drew)); exact HO_5.out, by repeat (first | (with_reducible first | exact HB.out | apply below_alloc | apply pw_below_drewN | apply below_drew1 | refine below_set ?_ GE434.out) | exact HB.out)⟩
          ·
           rw [if_neg c22] at H
           have c22b0 : (x9_2 == 0) = false := beq_eq_false_iff_ne.mpr c22
           have c22b1 : (x9_2 != 0) = true := bne_iff_ne.mpr c22
           have H' := Aside0.mk H
           clear H
           go_wp2
           repeat (go_quiet (fail); try go_wp2)
           go_loopg [10, 40] k2 (fun kq v10 v40 w' => ∃ (x5_3 : List Int) (x10_3 : Int) (x40_3 : Int), v10 = .int .u32 x10_3 ∧ v40 = .int .i64 x40_3 ∧ Aside0 (graph_Distances.l2 kq x5_3 (Go.bits .or .u32 x7_2 x9_2) x8_2 x9_2 x10_3 (x5_2.length : Int) x40_3 l0_0 l0_1 = some r) ∧ Aside0 (kq ≤ k2) ∧ Aside0 (Kd.R (Kd.int .i64) 3 w' w.heap.size (fun _ => True) (.slice Ao13 x5_2.length co13) x5_3) ∧ Aside0 (w'.heap[gb434]? = some (.cells #[(.slice A0_0 l0_0.length c0_0), (.slice A0_1 l0_1.length c0_1)] 27 (0, 0))) ∧ Aside0 (Below w.heap.size w w'))
           case atStart => exact ⟨(x5_2), (0), (0), (by first | rfl | (simp; done) | (simp [*]; done)), (by first | rfl | (simp; done) | (simp [*]; done)), H', ⟨Nat.le_refl _⟩, ⟨by (try simp only [hl5_1]); (try simp only [hl5_2]); (with_reducible repeat (first | apply Kd.R_alloc | apply Kd.R_drewN | apply Kd.R_drew)); exact HO_5.out⟩, ⟨by (try simp only [hl5_1]); (try simp only [hl5_2]); (with_reducible repeat (first | refine blk_drewN ?_ _ | refine blk_drew ?_ | refine blk_alloc ?_ _)); exact BK434.out⟩, ⟨by repeat (first | (with_reducible first | exact HB.out | apply below_alloc | apply pw_below_drewN | apply below_drew1 | refine below_set ?_ GE434.out) | exact HB.out)⟩⟩
           case round =>
            clear H'
            try clear c1
            try clear p1
            try clear q1
            try clear hx1
            try clear c2
            try clear p2
            try clear c4
            try clear c5
            try clear c5b0
            try clear c5b1
            try clear c6
            try clear c6b0
            try clear c6b1
            try clear p6
            try clear c9
            try clear c14
            try clear c14b0
            try clear c15
            try clear c15b0
            try clear c16
            try clear c16b0
            try clear p17
            try clear q17
            try clear hx17
            try clear hf17
            try clear c20
            try clear c20b0
            try clear c20b1
            try clear c22
            try clear c22b0
            try clear c22b1
            try clear hcz10_0
            try clear hcz10_1
            try clear hcz8_0
            try clear hcz8_1
            try clear hfz10_0
            try clear hfz10_1
            try clear hfz8_0
            try clear hfz8_1
            try clear hx17_0
            try clear p1
            try clear p17
            try clear p2
            try clear p6
            try clear q1
            try clear q17
            obtain ⟨x5_3, x10_3, x40_3, rfl, rfl, HA, HK3, HO_5, BK434, HB⟩ := hrel
            have hl5_3 := (Kd.R_reads' HO_5.out).1
            rw [hl5_3] at HO_5
            (try simp only [hl5_3])
            (try simp only [hl5_3] at BK434)
            cases gk with
            | zero => exact absurd HA.out (by simp [graph_Distances.l2])
            | succ k3 =>
             have H := HA.out
             clear HA
             simp only [graph_Distances.l2] at H
             by_cases c23 : x40_3 < (x5_2.length : Int)
             ·
              rw [if_pos c23] at H
              have c23b0 : decide (x40_3 < (x5_2.length : Int)) = true := decide_eq_true c23
              (try simp only [hl5_1, hl5_2, hl5_3] at c23b0)
              clear c23
              by_cases c24 : 0 ≤ x40_3
              ·
               rw [if_pos c24] at H
               have c24b0 := eq_true c24
               have c24b1 : decide (0 ≤ x40_3) = true := decide_eq_true c24
               (try simp only [hl5_1, hl5_2, hl5_3] at c24b1)
               clear c24
               obtain ⟨ji25, hji25⟩ : ∃ j_ : Int, (shr .u32 x9_2 x40_3) = j_ := ⟨_, rfl⟩
               replace H : (if (Go.bits .and .u32 (ji25) 1) = 1 then (if x40_3 < (x5_3.length : Int) then ((graph_around.f l0_0 l0_1 x40_3).bind fun t441 => (graph_Distances.l2 k3 (x5_3.set (x40_3 : Int).toNat x8_2) (Go.bits .or .u32 x7_2 x9_2) x8_2 x9_2 (Go.bits .or .u32 x10_3 t441) (x5_2.length : Int) (wrap64 (x40_3 + 1)) l0_0 l0_1)) else (none)) else (graph_Distances.l2 k3 x5_3 (Go.bits .or .u32 x7_2 x9_2) x8_2 x9_2 x10_3 (x5_2.length : Int) (wrap64 (x40_3 + 1)) l0_0 l0_1)) = some r := by first | (rw [hji25] at H; exact H) | (simp only [hji25] at H ⊢; exact H)
               have hji25_ : (x9_2 / 2 ^ min x40_3.toNat 32) = ji25 := hji25
               have hji25z : x40_3 ≤ 32 → (x9_2 / 2 ^ x40_3.toNat) = ji25 := shr_small hji25
               by_cases c26 : (Go.bits .and .u32 (ji25) 1) = 1
               ·
                rw [if_pos c26] at H
                have c26b0 : ((Go.bits .and .u32 (ji25) 1) == 1) = true := beq_iff_eq.mpr c26
                have c26b1 : ((Go.bits .and .u32 (ji25) 1) != 1) = false := bne_eq_false_iff_eq.mpr c26
                clear c26
                by_cases c27 : x40_3 < (x5_3.length : Int)
                ·
                 rw [if_pos c27] at H
                 have c27b0 : decide (x40_3 < (x5_3.length : Int)) = true := decide_eq_true c27
                 (try simp only [hl5_1, hl5_2, hl5_3] at c27b0)
                 clear c27
                 obtain ⟨y440, hy440⟩ : ∃ y_ : List Int, y_ = (x5_3.set (x40_3 : Int).toNat x8_2) := ⟨_, rfl⟩
                 replace H : ((graph_around.f l0_0 l0_1 x40_3).bind fun t441 => (graph_Distances.l2 k3 y440 (Go.bits .or .u32 x7_2 x9_2) x8_2 x9_2 (Go.bits .or .u32 x10_3 t441) (x5_2.length : Int) (wrap64 (x40_3 + 1)) l0_0 l0_1)) = some r := by first | (rw [hy440]; with_reducible exact H) | (have H2_ := (Option.bind_some _ _).symm.trans H; rw [hy440]; with_reducible exact H2_) | (have H2_ := (Option.bind_some _ _).symm.trans H; with_reducible exact H2_) | with_reducible exact H | (rw [hy440]; exact H) | exact H
                 have Ny440 := Aside0.mk hy440
                 clear hy440
                 replace H := Option.bind_eq_some_iff.mp H
                 obtain ⟨t441, A290, H⟩ := H
                 replace H : (graph_Distances.l2 k3 y440 (Go.bits .or .u32 x7_2 x9_2) x8_2 x9_2 (Go.bits .or .u32 x10_3 t441) (x5_2.length : Int) (wrap64 (x40_3 + 1)) l0_0 l0_1) = some r := H
                 have A29 := Aside0.mk A290
                 clear A290
                 have H' := Aside0.mk H
                 clear H
                 have p28 : 0 ≤ (x40_3 : Int) := of_decide_eq_true (by first | (with_reducible assumption) | assumption)
                 have q28 : (x40_3 : Int) < ((x5_3.length : Int) : Int) := of_decide_eq_true (by first | (with_reducible assumption) | assumption)
                 obtain ⟨go28, co28, eo28, gb28, gl28, cl28, HG28⟩ := Kd.R_form HO_5.out (by omega)
                 (first | cases eo28 | (injection eo28 with ea_ en_ ec_; (first | subst ea_ | (injection ea_ with ea_; subst ea_)); subst ec_; clear en_))
                 have GB28 := Aside0.mk gb28
                 have GG28 := Aside0.mk HG28
                 clear gb28 gl28 HG28
                 obtain ⟨hx28_0, hf28_0⟩ := Kd.R_celln 0 HO_5.out (x40_3 : Int) p28 q28
                 replace p28 := eq_true p28
                 replace q28 := eq_true q28
                 have HP30 := Kd.R_putg HO_5.out (x40_3 : Int) x8_2
                 go_wp2_with (first | ((with_reducible refine gate_store (t := 3) (p := 51) rfl ?_); (try (rw [drewN_self wr]; generalize hq_ : World.drewN wr _ = wr; have n0_ := Aside0.mk (Kd.R_at hq_ HO_5.out); have n1_ := Aside0.mk (blk_at hq_ BK434.out); have n2_ := Aside0.mk (below_at hq_ HB.out); clear hq_ HO_5 BK434 HB; have HO_5 := n0_; have BK434 := n1_; have HB := n2_; clear n0_ n1_ n2_; (try (have HP30 := Kd.R_putg HO_5.out (x40_3 : Int) x8_2)))); refine store_event (t := 3) (p := 51) (v := ?vo_w31) (w1 := (wr.setCell ⟨go28, (x40_3 : Int).toNat, none⟩ (.int .i64 x8_2))) ?hg ?ho ?hn ?hr ?_; (case ho => rfl); (case hg => rfl); (case hn => rfl); (case hr => first | (go_simp; done) | (go_simp; rfl)); intro w31 hw; have hg : wr.grownBy w31 (some go28) := (by rw [hw]; exact HP30.2); have hp_ : Kd.R (Kd.int .i64) 3 w31 w.heap.size (fun _ => True) (.slice (some ⟨go28, 0, none⟩) x5_3.length co13) y440 := (by rw [hw, Ny440.out]; exact HP30.1); clear HP30; have n0_ := Aside0.mk (hp_); have n1_ := Aside0.mk (blk_grown (g := gb434) (o := .cells #[.slice A0_0 l0_0.length c0_0, .slice A0_1 l0_1.length c0_1] 27 (0, 0)) (by (with_reducible repeat (first | refine blk_drewN ?_ _ | refine blk_drew ?_ | refine blk_alloc ?_ _)); exact BK434.out) hg (Kd.R_ne HO_5.out BK434.out (by decide))); have n2_ := Aside0.mk ((by rw [hw]; exact below_set (HB.out) GB28.out : Below w.heap.size w w31)); clear HO_5; clear BK434; clear HB; have HO_5 := n0_; have BK434 := n1_; have HB := n2_; clear n0_ n1_ n2_; clear hg hw hp_; have hcz32_0 : w31.cell? ⟨gb434, 0, none⟩ = some (.slice A0_0 l0_0.length c0_0) := (blk_cell BK434.out 0).trans rfl; have hcz32_1 : w31.cell? ⟨gb434, 1, none⟩ = some (.slice A0_1 l0_1.length c0_1) := (blk_cell BK434.out 1).trans rfl; have hfz32_0 := blk_frozen BK434.out 0; have hfz32_1 := blk_frozen BK434.out 1) | (go_at_call 119; (with_reducible refine (graph_around.calls _ _ l0_0 _ _ l0_1 x40_3 t441 _ ?side1 ?side2 ?side3 ?side4 A29.out).mono ?_); (case side1 => repeat (first | exact (Kd.C_below HR0_0.out HB.out) | (with_reducible refine Kd.C_alloc ?_ _) | (with_reducible refine Kd.C_drewN ?_ _) | (with_reducible refine Kd.C_drew ?_))); (case side2 => exact HC0_0.out); (case side3 => repeat (first | exact (Kd.C_below HR0_1.out HB.out) | (with_reducible refine Kd.C_alloc ?_ _) | (with_reducible refine Kd.C_drewN ?_ _) | (with_reducible refine Kd.C_drew ?_))); (case side4 => exact HC0_1.out); rintro e w33 ⟨rfl, hb⟩; have n0_ := Aside0.mk (Kd.R_below (by (with_reducible repeat (first | apply Kd.R_alloc | apply Kd.R_drewN | apply Kd.R_drew)); exact HO_5.out) hb); have n1_ := Aside0.mk (blk_below (g := gb434) (o := .cells #[.slice A0_0 l0_0.length c0_0, .slice A0_1 l0_1.length c0_1] 27 (0, 0)) (by (with_reducible repeat (first | refine blk_drewN ?_ _ | refine blk_drew ?_ | refine blk_alloc ?_ _)); exact BK434.out) hb); have n2_ := Aside0.mk (below_step (by repeat (first | (with_reducible first | exact HB.out | apply below_alloc | apply pw_below_drewN | apply below_drew1 | refine below_set ?_ GE434.out) | exact HB.out)) hb); clear HO_5; clear BK434; clear HB; have HO_5 := n0_; have BK434 := n1_; have HB := n2_; clear n0_ n1_ n2_; (try clear hb); (try clear hb2); (try clear hk); (try clear hi)))
                 repeat (go_quiet (first | ((with_reducible refine gate_store (t := 3) (p := 51) rfl ?_); (try (rw [drewN_self wr]; generalize hq_ : World.drewN wr _ = wr; have n0_ := Aside0.mk (Kd.R_at hq_ HO_5.out); have n1_ := Aside0.mk (blk_at hq_ BK434.out); have n2_ := Aside0.mk (below_at hq_ HB.out); clear hq_ HO_5 BK434 HB; have HO_5 := n0_; have BK434 := n1_; have HB := n2_; clear n0_ n1_ n2_; (try (have HP30 := Kd.R_putg HO_5.out (x40_3 : Int) x8_2)))); refine store_event (t := 3) (p := 51) (v := ?vo_w31) (w1 := (wr.setCell ⟨go28, (x40_3 : Int).toNat, none⟩ (.int .i64 x8_2))) ?hg ?ho ?hn ?hr ?_; (case ho => rfl); (case hg => rfl); (case hn => rfl); (case hr => first | (go_simp; done) | (go_simp; rfl)); intro w31 hw; have hg : wr.grownBy w31 (some go28) := (by rw [hw]; exact HP30.2); have hp_ : Kd.R (Kd.int .i64) 3 w31 w.heap.size (fun _ => True) (.slice (some ⟨go28, 0, none⟩) x5_3.length co13) y440 := (by rw [hw, Ny440.out]; exact HP30.1); clear HP30; have n0_ := Aside0.mk (hp_); have n1_ := Aside0.mk (blk_grown (g := gb434) (o := .cells #[.slice A0_0 l0_0.length c0_0, .slice A0_1 l0_1.length c0_1] 27 (0, 0)) (by (with_reducible repeat (first | refine blk_drewN ?_ _ | refine blk_drew ?_ | refine blk_alloc ?_ _)); exact BK434.out) hg (Kd.R_ne HO_5.out BK434.out (by decide))); have n2_ := Aside0.mk ((by rw [hw]; exact below_set (HB.out) GB28.out : Below w.heap.size w w31)); clear HO_5; clear BK434; clear HB; have HO_5 := n0_; have BK434 := n1_; have HB := n2_; clear n0_ n1_ n2_; clear hg hw hp_; have hcz32_0 : w31.cell? ⟨gb434, 0, none⟩ = some (.slice A0_0 l0_0.length c0_0) := (blk_cell BK434.out 0).trans rfl; have hcz32_1 : w31.cell? ⟨gb434, 1, none⟩ = some (.slice A0_1 l0_1.length c0_1) := (blk_cell BK434.out 1).trans rfl; have hfz32_0 := blk_frozen BK434.out 0; have hfz32_1 := blk_frozen BK434.out 1) | (go_at_call 119; (with_reducible refine (graph_around.calls _ _ l0_0 _ _ l0_1 x40_3 t441 _ ?side1 ?side2 ?side3 ?side4 A29.out).mono ?_); (case side1 => repeat (first | exact (Kd.C_below HR0_0.out HB.out) | (with_reducible refine Kd.C_alloc ?_ _) | (with_reducible refine Kd.C_drewN ?_ _) | (with_reducible refine Kd.C_drew ?_))); (case side2 => exact HC0_0.out); (case side3 => repeat (first | exact (Kd.C_below HR0_1.out HB.out) | (with_reducible refine Kd.C_alloc ?_ _) | (with_reducible refine Kd.C_drewN ?_ _) | (with_reducible refine Kd.C_drew ?_))); (case side4 => exact HC0_1.out); rintro e w33 ⟨rfl, hb⟩; have n0_ := Aside0.mk (Kd.R_below (by (with_reducible repeat (first | apply Kd.R_alloc | apply Kd.R_drewN | apply Kd.R_drew)); exact HO_5.out) hb); have n1_ := Aside0.mk (blk_below (g := gb434) (o := .cells #[.slice A0_0 l0_0.length c0_0, .slice A0_1 l0_1.length c0_1] 27 (0, 0)) (by (with_reducible repeat (first | refine blk_drewN ?_ _ | refine blk_drew ?_ | refine blk_alloc ?_ _)); exact BK434.out) hb); have n2_ := Aside0.mk (below_step (by repeat (first | (with_reducible first | exact HB.out | apply below_alloc | apply pw_below_drewN | apply below_drew1 | refine below_set ?_ GE434.out) | exact HB.out)) hb); clear HO_5; clear BK434; clear HB; have HO_5 := n0_; have BK434 := n1_; have HB := n2_; clear n0_ n1_ n2_; (try clear hb); (try clear hb2); (try clear hk); (try clear hi))); try go_wp2_with (first | ((with_reducible refine gate_store (t := 3) (p := 51) rfl ?_); (try (rw [drewN_self wr]; generalize hq_ : World.drewN wr _ = wr; have n0_ := Aside0.mk (Kd.R_at hq_ HO_5.out); have n1_ := Aside0.mk (blk_at hq_ BK434.out); have n2_ := Aside0.mk (below_at hq_ HB.out); clear hq_ HO_5 BK434 HB; have HO_5 := n0_; have BK434 := n1_; have HB := n2_; clear n0_ n1_ n2_; (try (have HP30 := Kd.R_putg HO_5.out (x40_3 : Int) x8_2)))); refine store_event (t := 3) (p := 51) (v := ?vo_w31) (w1 := (wr.setCell ⟨go28, (x40_3 : Int).toNat, none⟩ (.int .i64 x8_2))) ?hg ?ho ?hn ?hr ?_; (case ho => rfl); (case hg => rfl); (case hn => rfl); (case hr => first | (go_simp; done) | (go_simp; rfl)); intro w31 hw; have hg : wr.grownBy w31 (some go28) := (by rw [hw]; exact HP30.2); have hp_ : Kd.R (Kd.int .i64) 3 w31 w.heap.size (fun _ => True) (.slice (some ⟨go28, 0, none⟩) x5_3.length co13) y440 := (by rw [hw, Ny440.out]; exact HP30.1); clear HP30; have n0_ := Aside0.mk (hp_); have n1_ := Aside0.mk (blk_grown (g := gb434) (o := .cells #[.slice A0_0 l0_0.length c0_0, .slice A0_1 l0_1.length c0_1] 27 (0, 0)) (by (with_reducible repeat (first | refine blk_drewN ?_ _ | refine blk_drew ?_ | refine blk_alloc ?_ _)); exact BK434.out) hg (Kd.R_ne HO_5.out BK434.out (by decide))); have n2_ := Aside0.mk ((by rw [hw]; exact below_set (HB.out) GB28.out : Below w.heap.size w w31)); clear HO_5; clear BK434; clear HB; have HO_5 := n0_; have BK434 := n1_; have HB := n2_; clear n0_ n1_ n2_; clear hg hw hp_; have hcz32_0 : w31.cell? ⟨gb434, 0, none⟩ = some (.slice A0_0 l0_0.length c0_0) := (blk_cell BK434.out 0).trans rfl; have hcz32_1 : w31.cell? ⟨gb434, 1, none⟩ = some (.slice A0_1 l0_1.length c0_1) := (blk_cell BK434.out 1).trans rfl; have hfz32_0 := blk_frozen BK434.out 0; have hfz32_1 := blk_frozen BK434.out 1) | (go_at_call 119; (with_reducible refine (graph_around.calls _ _ l0_0 _ _ l0_1 x40_3 t441 _ ?side1 ?side2 ?side3 ?side4 A29.out).mono ?_); (case side1 => repeat (first | exact (Kd.C_below HR0_0.out HB.out) | (with_reducible refine Kd.C_alloc ?_ _) | (with_reducible refine Kd.C_drewN ?_ _) | (with_reducible refine Kd.C_drew ?_))); (case side2 => exact HC0_0.out); (case side3 => repeat (first | exact (Kd.C_below HR0_1.out HB.out) | (with_reducible refine Kd.C_alloc ?_ _) | (with_reducible refine Kd.C_drewN ?_ _) | (with_reducible refine Kd.C_drew ?_))); (case side4 => exact HC0_1.out); rintro e w33 ⟨rfl, hb⟩; have n0_ := Aside0.mk (Kd.R_below (by (with_reducible repeat (first | apply Kd.R_alloc | apply Kd.R_drewN | apply Kd.R_drew)); exact HO_5.out) hb); have n1_ := Aside0.mk (blk_below (g := gb434) (o := .cells #[.slice A0_0 l0_0.length c0_0, .slice A0_1 l0_1.length c0_1] 27 (0, 0)) (by (with_reducible repeat (first | refine blk_drewN ?_ _ | refine blk_drew ?_ | refine blk_alloc ?_ _)); exact BK434.out) hb); have n2_ := Aside0.mk (below_step (by repeat (first | (with_reducible first | exact HB.out | apply below_alloc | apply pw_below_drewN | apply below_drew1 | refine below_set ?_ GE434.out) | exact HB.out)) hb); clear HO_5; clear BK434; clear HB; have HO_5 := n0_; have BK434 := n1_; have HB := n2_; clear n0_ n1_ n2_; (try clear hb); (try clear hb2); (try clear hk); (try clear hi))))
                 (try simp only [← hl5_3])
                 go_roundg k3
                 case measure => have := HK1.out; have := HK2.out; have := HK3.out; omega
                 case rel => exact ⟨(y440), (Go.bits .or .u32 x10_3 t441), (wrap64 (x40_3 + 1)), (by first | rfl | (simp; done) | (simp [*]; done)), (by first | rfl | (simp; done) | (simp [*]; done)), H', ⟨by have := HK1.out; have := HK2.out; have := HK3.out; omega⟩, ⟨by (try simp only [hl5_1]); (try simp only [hl5_2]); (try simp only [hl5_3]); (with_reducible repeat (first | apply Kd.R_alloc | apply Kd.R_drewN | apply Kd.R_drew)); exact HO_5.out⟩, ⟨by (try simp only [hl5_1]); (try simp only [hl5_2]); (try simp only [hl5_3]); (with_reducible repeat (first | refine blk_drewN ?_ _ | refine blk_drew ?_ | refine blk_alloc ?_ _)); exact BK434.out⟩, ⟨by repeat (first | (with_reducible first | exact HB.out | apply below_alloc | apply pw_below_drewN | apply below_drew1 | refine below_set ?_ GE434.out) | exact HB.out)⟩⟩
                ·
                 rw [if_neg c27] at H
                 exact absurd H (by simp)
               ·
                rw [if_neg c26] at H
                have c26b0 : ((Go.bits .and .u32 (ji25) 1) == 1) = false := beq_eq_false_iff_ne.mpr c26
                have c26b1 : ((Go.bits .and .u32 (ji25) 1) != 1) = true := bne_iff_ne.mpr c26
                have H' := Aside0.mk H
                clear H
                go_wp2
                repeat (go_quiet (fail); try go_wp2)
                (try simp only [← hl5_3])
                go_roundg k3
                case measure => have := HK1.out; have := HK2.out; have := HK3.out; omega
                case rel => exact ⟨(x5_3), (x10_3), (wrap64 (x40_3 + 1)), (by first | rfl | (simp; done) | (simp [*]; done)), (by first | rfl | (simp; done) | (simp [*]; done)), H', ⟨by have := HK1.out; have := HK2.out; have := HK3.out; omega⟩, ⟨by (try simp only [hl5_1]); (try simp only [hl5_2]); (try simp only [hl5_3]); (with_reducible repeat (first | apply Kd.R_alloc | apply Kd.R_drewN | apply Kd.R_drew)); exact HO_5.out⟩, ⟨by (try simp only [hl5_1]); (try simp only [hl5_2]); (try simp only [hl5_3]); (with_reducible repeat (first | refine blk_drewN ?_ _ | refine blk_drew ?_ | refine blk_alloc ?_ _)); exact BK434.out⟩, ⟨by repeat (first | (with_reducible first | exact HB.out | apply below_alloc | apply pw_below_drewN | apply below_drew1 | refine below_set ?_ GE434.out) | exact HB.out)⟩⟩
              ·
               rw [if_neg c24] at H
               exact absurd H (by simp)
             ·
              rw [if_neg c23] at H
              have c23b0 : decide (x40_3 < (x5_2.length : Int)) = false := decide_eq_false c23
              (try simp only [hl5_1, hl5_2, hl5_3] at c23b0)
              clear c23
              have H' := Aside0.mk H
              clear H
              go_wp2
              repeat (go_quiet (fail); try go_wp2)
              (try simp only [← hl5_2, ← hl5_3])
              go_roundg k3
              case measure => have := HK1.out; have := HK2.out; have := HK3.out; omega
              case rel => exact ⟨(x5_3), ((Go.bits .or .u32 x7_2 x9_2)), (wrap64 (x8_2 + 1)), (Go.bits .andNot .u32 x10_3 (Go.bits .or .u32 x7_2 x9_2)), (by first | rfl | (simp; done) | (simp [*]; done)), (by first | rfl | (simp; done) | (simp [*]; done)), (by first | rfl | (simp; done) | (simp [*]; done)), H', ⟨by have := HK1.out; have := HK2.out; have := HK3.out; omega⟩, ⟨by (try simp only [hl5_1]); (try simp only [hl5_2]); (try simp only [hl5_3]); (with_reducible repeat (first | apply Kd.R_alloc | apply Kd.R_drewN | apply Kd.R_drew)); exact HO_5.out⟩, ⟨by (try simp only [hl5_1]); (try simp only [hl5_2]); (try simp only [hl5_3]); (with_reducible repeat (first | refine blk_drewN ?_ _ | refine blk_drew ?_ | refine blk_alloc ?_ _)); exact BK434.out⟩, ⟨by repeat (first | (with_reducible first | exact HB.out | apply below_alloc | apply pw_below_drewN | apply below_drew1 | refine below_set ?_ GE434.out) | exact HB.out)⟩⟩
       ·
        rw [if_neg c20] at H
        exact absurd H (by simp)
   ·
    rw [if_neg c6] at H
    exact absurd H (by simp)
  ·
   rw [if_neg c5] at H
   exact absurd H (by simp)
 ·
  replace c4 := Bool.eq_false_iff.mpr c4
  subst c4
  have H1 : (some ([] : List Int)) = some r := by rw [if_neg (show ¬ (false = true) by decide)] at H; exact H
  clear H
  have H := H1
  clear H1
  obtain rfl := Option.some.inj H
  go_enter Try.func90, Try.ntmps90
  go_wp2_with (first | ((with_reducible refine gate_dst (N := 2) rfl ?_); refine box_event ?hg (N := 2) ?hd (cs := #[.slice A0_0 l0_0.length c0_0, .slice A0_1 l0_1.length c0_1]) (t := 27) ?hr ?_; (case hd => rfl); (case hg => rfl); (case hr => first | (go_simp; done) | (go_simp; rfl)); intro gb434 hg w34 hbox hb; have n0_ := Aside0.mk (below_step (by repeat (first | (with_reducible first | exact HB.out | apply below_alloc | apply pw_below_drewN | apply below_drew1) | exact HB.out)) hb); have n1_ := Aside0.mk (hbox); have n2_ := Aside0.mk ((by rw [hg]; exact (below_size (by repeat (first | (with_reducible first | exact HB.out | apply below_alloc | apply pw_below_drewN | apply below_drew1) | exact HB.out))) : w.heap.size ≤ gb434)); have n3_ := Aside0.mk ((by rw [hg]; exact (below_size (by repeat (first | (with_reducible first | exact HB.out | apply below_alloc | apply pw_below_drewN | apply below_drew1) | exact HB.out))) : w.heap.size ≤ gb434)); clear HB; have HB := n0_; have BK434 := n1_; have GW434 := n2_; have GE434 := n3_; clear n0_ n1_ n2_ n3_; clear hb hbox hg; have hcz35_0 : w34.cell? ⟨gb434, 0, none⟩ = some (.slice A0_0 l0_0.length c0_0) := (blk_cell BK434.out 0).trans rfl; have hcz35_1 : w34.cell? ⟨gb434, 1, none⟩ = some (.slice A0_1 l0_1.length c0_1) := (blk_cell BK434.out 1).trans rfl; have hfz35_0 := blk_frozen BK434.out 0; have hfz35_1 := blk_frozen BK434.out 1) | (go_at_call 124; (with_reducible refine (graph_node.calls _ _ l0_0 _ _ l0_1 a1 false _ ?side1 ?side2 ?side3 ?side4 A3.out).mono ?_); (case side1 => repeat (first | exact (Kd.C_below HR0_0.out HB.out) | (with_reducible refine Kd.C_alloc ?_ _) | (with_reducible refine Kd.C_drewN ?_ _) | (with_reducible refine Kd.C_drew ?_))); (case side2 => exact HC0_0.out); (case side3 => repeat (first | exact (Kd.C_below HR0_1.out HB.out) | (with_reducible refine Kd.C_alloc ?_ _) | (with_reducible refine Kd.C_drewN ?_ _) | (with_reducible refine Kd.C_drew ?_))); (case side4 => exact HC0_1.out); rintro e w36 ⟨rfl, hb⟩; have n0_ := Aside0.mk (blk_below (g := gb434) (o := .cells #[.slice A0_0 l0_0.length c0_0, .slice A0_1 l0_1.length c0_1] 27 (0, 0)) (by (with_reducible repeat (first | refine blk_drewN ?_ _ | refine blk_drew ?_ | refine blk_alloc ?_ _)); exact BK434.out) hb); have n1_ := Aside0.mk (below_step (by repeat (first | (with_reducible first | exact HB.out | apply below_alloc | apply pw_below_drewN | apply below_drew1 | refine below_set ?_ GE434.out) | exact HB.out)) hb); clear BK434; clear HB; have BK434 := n0_; have HB := n1_; clear n0_ n1_; (try clear hb); (try clear hb2); (try clear hk); (try clear hi)))
  repeat (go_quiet (first | ((with_reducible refine gate_dst (N := 2) rfl ?_); refine box_event ?hg (N := 2) ?hd (cs := #[.slice A0_0 l0_0.length c0_0, .slice A0_1 l0_1.length c0_1]) (t := 27) ?hr ?_; (case hd => rfl); (case hg => rfl); (case hr => first | (go_simp; done) | (go_simp; rfl)); intro gb434 hg w34 hbox hb; have n0_ := Aside0.mk (below_step (by repeat (first | (with_reducible first | exact HB.out | apply below_alloc | apply pw_below_drewN | apply below_drew1) | exact HB.out)) hb); have n1_ := Aside0.mk (hbox); have n2_ := Aside0.mk ((by rw [hg]; exact (below_size (by repeat (first | (with_reducible first | exact HB.out | apply below_alloc | apply pw_below_drewN | apply below_drew1) | exact HB.out))) : w.heap.size ≤ gb434)); have n3_ := Aside0.mk ((by rw [hg]; exact (below_size (by repeat (first | (with_reducible first | exact HB.out | apply below_alloc | apply pw_below_drewN | apply below_drew1) | exact HB.out))) : w.heap.size ≤ gb434)); clear HB; have HB := n0_; have BK434 := n1_; have GW434 := n2_; have GE434 := n3_; clear n0_ n1_ n2_ n3_; clear hb hbox hg; have hcz35_0 : w34.cell? ⟨gb434, 0, none⟩ = some (.slice A0_0 l0_0.length c0_0) := (blk_cell BK434.out 0).trans rfl; have hcz35_1 : w34.cell? ⟨gb434, 1, none⟩ = some (.slice A0_1 l0_1.length c0_1) := (blk_cell BK434.out 1).trans rfl; have hfz35_0 := blk_frozen BK434.out 0; have hfz35_1 := blk_frozen BK434.out 1) | (go_at_call 124; (with_reducible refine (graph_node.calls _ _ l0_0 _ _ l0_1 a1 false _ ?side1 ?side2 ?side3 ?side4 A3.out).mono ?_); (case side1 => repeat (first | exact (Kd.C_below HR0_0.out HB.out) | (with_reducible refine Kd.C_alloc ?_ _) | (with_reducible refine Kd.C_drewN ?_ _) | (with_reducible refine Kd.C_drew ?_))); (case side2 => exact HC0_0.out); (case side3 => repeat (first | exact (Kd.C_below HR0_1.out HB.out) | (with_reducible refine Kd.C_alloc ?_ _) | (with_reducible refine Kd.C_drewN ?_ _) | (with_reducible refine Kd.C_drew ?_))); (case side4 => exact HC0_1.out); rintro e w36 ⟨rfl, hb⟩; have n0_ := Aside0.mk (blk_below (g := gb434) (o := .cells #[.slice A0_0 l0_0.length c0_0, .slice A0_1 l0_1.length c0_1] 27 (0, 0)) (by (with_reducible repeat (first | refine blk_drewN ?_ _ | refine blk_drew ?_ | refine blk_alloc ?_ _)); exact BK434.out) hb); have n1_ := Aside0.mk (below_step (by repeat (first | (with_reducible first | exact HB.out | apply below_alloc | apply pw_below_drewN | apply below_drew1 | refine below_set ?_ GE434.out) | exact HB.out)) hb); clear BK434; clear HB; have BK434 := n0_; have HB := n1_; clear n0_ n1_; (try clear hb); (try clear hb2); (try clear hk); (try clear hi))); try go_wp2_with (first | ((with_reducible refine gate_dst (N := 2) rfl ?_); refine box_event ?hg (N := 2) ?hd (cs := #[.slice A0_0 l0_0.length c0_0, .slice A0_1 l0_1.length c0_1]) (t := 27) ?hr ?_; (case hd => rfl); (case hg => rfl); (case hr => first | (go_simp; done) | (go_simp; rfl)); intro gb434 hg w34 hbox hb; have n0_ := Aside0.mk (below_step (by repeat (first | (with_reducible first | exact HB.out | apply below_alloc | apply pw_below_drewN | apply below_drew1) | exact HB.out)) hb); have n1_ := Aside0.mk (hbox); have n2_ := Aside0.mk ((by rw [hg]; exact (below_size (by repeat (first | (with_reducible first | exact HB.out | apply below_alloc | apply pw_below_drewN | apply below_drew1) | exact HB.out))) : w.heap.size ≤ gb434)); have n3_ := Aside0.mk ((by rw [hg]; exact (below_size (by repeat (first | (with_reducible first | exact HB.out | apply below_alloc | apply pw_below_drewN | apply below_drew1) | exact HB.out))) : w.heap.size ≤ gb434)); clear HB; have HB := n0_; have BK434 := n1_; have GW434 := n2_; have GE434 := n3_; clear n0_ n1_ n2_ n3_; clear hb hbox hg; have hcz35_0 : w34.cell? ⟨gb434, 0, none⟩ = some (.slice A0_0 l0_0.length c0_0) := (blk_cell BK434.out 0).trans rfl; have hcz35_1 : w34.cell? ⟨gb434, 1, none⟩ = some (.slice A0_1 l0_1.length c0_1) := (blk_cell BK434.out 1).trans rfl; have hfz35_0 := blk_frozen BK434.out 0; have hfz35_1 := blk_frozen BK434.out 1) | (go_at_call 124; (with_reducible refine (graph_node.calls _ _ l0_0 _ _ l0_1 a1 false _ ?side1 ?side2 ?side3 ?side4 A3.out).mono ?_); (case side1 => repeat (first | exact (Kd.C_below HR0_0.out HB.out) | (with_reducible refine Kd.C_alloc ?_ _) | (with_reducible refine Kd.C_drewN ?_ _) | (with_reducible refine Kd.C_drew ?_))); (case side2 => exact HC0_0.out); (case side3 => repeat (first | exact (Kd.C_below HR0_1.out HB.out) | (with_reducible refine Kd.C_alloc ?_ _) | (with_reducible refine Kd.C_drewN ?_ _) | (with_reducible refine Kd.C_drew ?_))); (case side4 => exact HC0_1.out); rintro e w36 ⟨rfl, hb⟩; have n0_ := Aside0.mk (blk_below (g := gb434) (o := .cells #[.slice A0_0 l0_0.length c0_0, .slice A0_1 l0_1.length c0_1] 27 (0, 0)) (by (with_reducible repeat (first | refine blk_drewN ?_ _ | refine blk_drew ?_ | refine blk_alloc ?_ _)); exact BK434.out) hb); have n1_ := Aside0.mk (below_step (by repeat (first | (with_reducible first | exact HB.out | apply below_alloc | apply pw_below_drewN | apply below_drew1 | refine below_set ?_ GE434.out) | exact HB.out)) hb); clear BK434; clear HB; have BK434 := n0_; have HB := n1_; clear n0_ n1_; (try clear hb); (try clear hb2); (try clear hk); (try clear hi))))
  go_ret
  exact ⟨_, by first | rfl | (simp [errW_none, errW_some] <;> rfl) | (simp [*, errW_none, errW_some] <;> rfl), by first | exact Kd.R_nil _ _ _ _ _ | exact Kd.N_nil _ _ _ _ _ | exact Kd.V_nil _ _ _ _ _ | exact Kd.Q_nil _ _ _ _ _ | exact Kd.S_nil _ _ _ _ _, by repeat (first | (with_reducible first | exact HB.out | apply below_alloc | apply pw_below_drewN | apply below_drew1 | refine below_set ?_ GE434.out) | exact HB.out)⟩
end Go.Proofs.YthapikakneikbaaG
namespace Go.Proofs.YthapikakneikbaaG
open Go.RowKit Go.Proofs.YthapikakneikbaaW.PrintWords Go.Proofs.YthapikakneikbaaW.PrintLast Go.Proofs.YthapikakneikbaaW.PrintMore
attribute [local go_sem] max2_int min2_int max_two min_two max_three min_three max_four min_four   -- for this text's walks alone
set_option linter.unusedVariables false
set_option linter.unusedSimpArgs false
/-! ### selfstabref01_In: function 116 -/
def selfstabref01_In.f (a0 : Int) (a1 : Int) (a2 : Int) : Option (Bool) := if a0 ≥ a1 then (some (decide (a0 ≤ a2))) else (some false)
set_option maxHeartbeats 8000000 in
set_option maxRecDepth 100000 in
theorem selfstabref01_In.calls (a0 : Int) (a1 : Int) (a2 : Int) (r : Bool) (w : World) (h : selfstabref01_In.f a0 a1 a2 = some r) :
  Calls Try.prog 116 #[.int .i64 a0, .int .i64 a1, .int .i64 a2] w fun e w' => e = .returned (.bool r) ∧ Drawn0 w w' := by
 have H : (if a0 ≥ a1 then (some (decide (a0 ≤ a2))) else (some false)) = some r := h
 clear h
 by_cases c4 : a0 ≥ a1
 ·
  rw [if_pos c4] at H
  have c4b0 : decide (a1 ≤ a0) = true := decide_eq_true c4
  clear c4
  obtain rfl := Option.some.inj H
  go_enter Try.func116, Try.ntmps116
  go_wp2
  go_ret
  exact ⟨by first | rfl | (simp; done) | (simp [*]; done), by repeat (first | exact Drawn0.refl _ | apply Drawn0.step)⟩
 ·
  rw [if_neg c4] at H
  have c4b0 : decide (a1 ≤ a0) = false := decide_eq_false c4
  clear c4
  obtain rfl := Option.some.inj H
  go_enter Try.func116, Try.ntmps116
  go_wp2
  go_ret
  exact ⟨by first | rfl | (simp; done) | (simp [*]; done), by repeat (first | exact Drawn0.refl _ | apply Drawn0.step)⟩
end Go.Proofs.YthapikakneikbaaG
/-
  As Bridge, beside the contract of selfstabref01.Valid.
-/
namespace Go.Proofs.YthapikakneikbaaG
open Go.RowKit Go.Proofs.YthapikakneikbaaW.PrintWords Go.Proofs.YthapikakneikbaaW.PrintLast Go.Proofs.YthapikakneikbaaW.PrintMore
attribute [local go_sem] max2_int min2_int max_two min_two max_three min_three max_four min_four   -- for this text's walks alone
set_option linter.unusedVariables false
set_option linter.unusedSimpArgs false
/-! ### selfstabref01_Valid: function 75 -/
def selfstabref01_Valid.f (l0_0 : List Int) (l0_1 : List (List (S60))) : Option (Bool) := some (toG l0_0 l0_1).valid
theorem selfstabref01_Valid.calls (A0_0 : Option Addr) (c0_0 : Nat) (l0_0 : List Int) (A0_1 : Option Addr) (c0_1 : Nat) (l0_1 : List (List (S60))) (r : Bool) (w : World) (hr0_0 : Kd.C (Kd.int .i64) w A0_0 l0_0.length l0_0) (hc0_0 : l0_0.length ≤ c0_0) (hr0_1 : Kd.C (Kd.slice 60 k60) w A0_1 l0_1.length l0_1) (hc0_1 : l0_1.length ≤ c0_1) (h : selfstabref01_Valid.f l0_0 l0_1 = some r) :
  Calls Try.prog 75 #[.agg #[.slice A0_0 l0_0.length c0_0, .slice A0_1 l0_1.length c0_1]] w fun e w' => e = .returned (.bool r) ∧ Below w.heap.size w w' := by
 obtain rfl : (toG l0_0 l0_1).valid = r := by simpa [selfstabref01_Valid.f] using h
 have hv := Go.Proofs.Ythapikakneikbaa.refvalid_calls w A0_0 c0_0 A0_1 c0_1 (toG l0_0 l0_1) (isGraph hr0_0 hc0_0 hr0_1 hc0_1)
 have e1 : (toG l0_0 l0_1).ports.length = l0_1.length := by simp [toG]
 rw [e1] at hv
 exact hv
end Go.Proofs.YthapikakneikbaaG
namespace Go.Proofs.YthapikakneikbaaG
open Go.RowKit Go.Proofs.YthapikakneikbaaW.PrintWords Go.Proofs.YthapikakneikbaaW.PrintLast Go.Proofs.YthapikakneikbaaW.PrintMore
attribute [local go_sem] max2_int min2_int max_two min_two max_three min_three max_four min_four   -- for this text's walks alone
set_option linter.unusedVariables false
set_option linter.unusedSimpArgs false
/-! ### selfstabref01_Distances: function 123 -/
mutual
def selfstabref01_Distances.j0 : Nat → Int → Bool → List Int → List (List (S60)) → Option (List Int)
 | 0, _, _, _, _ => none
 | k + 1, x1, x22, x546000, x546001 => if x22 = true then (some ([] : List Int)) else (selfstabref01_Distances.l0 k x1 (x546001.length : Int) ([] : List Int) 0 x546000 x546001)
def selfstabref01_Distances.l0 : Nat → Int → Int → List Int → Int → List Int → List (List (S60)) → Option (List Int)
 | 0, _, _, _, _, _, _ => none
 | k + 1, x1, x5, x6, x7, x546000, x546001 => if x7 < x5 then (if x6.length < 17592186044416 then (selfstabref01_Distances.l0 k x1 x5 (x6 ++ [(-1)]) (wrap64 (x7 + 1)) x546000 x546001) else (none)) else (if 0 ≤ x1 then (if x1 < (x6.length : Int) then (selfstabref01_Distances.l1 k x5 (x6.set (x1 : Int).toNat 0) 1 x546000 x546001) else (none)) else (none))
def selfstabref01_Distances.l1 : Nat → Int → List Int → Int → List Int → List (List (S60)) → Option (List Int)
 | 0, _, _, _, _, _ => none
 | k + 1, x5, x6, x8, x546000, x546001 => if x8 < x5 then (selfstabref01_Distances.l2 k x5 x6 x8 0 x546000 x546001) else (some x6)
def selfstabref01_Distances.l2 : Nat → Int → List Int → Int → Int → List Int → List (List (S60)) → Option (List Int)
 | 0, _, _, _, _, _, _ => none
 | k + 1, x5, x6, x8, x9, x546000, x546001 => if x9 < x5 then (selfstabref01_Distances.l3 k x5 x6 x8 x9 0 x546000 x546001) else (selfstabref01_Distances.l1 k x5 x6 (wrap64 (x8 + 1)) x546000 x546001)
def selfstabref01_Distances.l3 : Nat → Int → List Int → Int → Int → Int → List Int → List (List (S60)) → Option (List Int)
 | 0, _, _, _, _, _, _, _ => none
 | k + 1, x5, x6, x8, x9, x10, x546000, x546001 => if 0 ≤ x9 then (if x9 < (x546001.length : Int) then (if x10 < ((rd_L2 x546001 x9).length : Int) then (if x9 < (x6.length : Int) then (selfstabref01_Distances.j5 k x5 x6 x8 x9 x10 (decide ((rd x6 x9) < 0)) x546000 x546001) else (none)) else (selfstabref01_Distances.j5 k x5 x6 x8 x9 x10 false x546000 x546001)) else (none)) else (none)
def selfstabref01_Distances.j5 : Nat → Int → List Int → Int → Int → Int → Bool → List Int → List (List (S60)) → Option (List Int)
 | 0, _, _, _, _, _, _, _, _ => none
 | k + 1, x5, x6, x8, x9, x10, x61, x546000, x546001 => if x61 = true then (if 0 ≤ x9 then (if x9 < (x546001.length : Int) then (if 0 ≤ x10 then (if x10 < ((rd_L2 x546001 x9).length : Int) then (if 0 ≤ ((rd_T60 (rd_L2 x546001 x9) x10).f0) then (if ((rd_T60 (rd_L2 x546001 x9) x10).f0) < (x6.length : Int) then (if (rd x6 ((rd_T60 (rd_L2 x546001 x9) x10).f0)) = (wrap64 (x8 - 1)) then (if x9 < (x6.length : Int) then (selfstabref01_Distances.l3 k x5 (x6.set (x9 : Int).toNat x8) x8 x9 (wrap64 (x10 + 1)) x546000 x546001) else (none)) else (selfstabref01_Distances.l3 k x5 x6 x8 x9 (wrap64 (x10 + 1)) x546000 x546001)) else (none)) else (none)) else (none)) else (none)) else (none)) else (none)) else (selfstabref01_Distances.l2 k x5 x6 x8 (wrap64 (x9 + 1)) x546000 x546001)
end
def selfstabref01_Distances.f (k : Nat) (l0_0 : List Int) (l0_1 : List (List (S60))) (a1 : Int) : Option (List Int) := (selfstabref01_Valid.f l0_0 l0_1).bind fun t546 => (if t546 = true then ((selfstabref01_In.f a1 0 (wrap64 ((l0_1.length : Int) - 1))).bind fun t547 => (selfstabref01_Distances.j0 k a1 (!t547) l0_0 l0_1)) else (selfstabref01_Distances.j0 k a1 true l0_0 l0_1))
theorem selfstabref01_Distances.mono_l : ∀ k, (∀ y0 y1 y2 y3, LeO (selfstabref01_Distances.j0 k y0 y1 y2 y3) (selfstabref01_Distances.j0 (k + 1) y0 y1 y2 y3)) ∧ (∀ y0 y1 y2 y3 y4 y5, LeO (selfstabref01_Distances.l0 k y0 y1 y2 y3 y4 y5) (selfstabref01_Distances.l0 (k + 1) y0 y1 y2 y3 y4 y5)) ∧ (∀ y0 y1 y2 y3 y4, LeO (selfstabref01_Distances.l1 k y0 y1 y2 y3 y4) (selfstabref01_Distances.l1 (k + 1) y0 y1 y2 y3 y4)) ∧ (∀ y0 y1 y2 y3 y4 y5, LeO (selfstabref01_Distances.l2 k y0 y1 y2 y3 y4 y5) (selfstabref01_Distances.l2 (k + 1) y0 y1 y2 y3 y4 y5)) ∧ (∀ y0 y1 y2 y3 y4 y5 y6, LeO (selfstabref01_Distances.l3 k y0 y1 y2 y3 y4 y5 y6) (selfstabref01_Distances.l3 (k + 1) y0 y1 y2 y3 y4 y5 y6)) ∧ (∀ y0 y1 y2 y3 y4 y5 y6 y7, LeO (selfstabref01_Distances.j5 k y0 y1 y2 y3 y4 y5 y6 y7) (selfstabref01_Distances.j5 (k + 1) y0 y1 y2 y3 y4 y5 y6 y7))
 | 0 => ⟨fun _ _ _ _ r h => by simp [selfstabref01_Distances.j0] at h, fun _ _ _ _ _ _ r h => by simp [selfstabref01_Distances.l0] at h, fun _ _ _ _ _ r h => by simp [selfstabref01_Distances.l1] at h, fun _ _ _ _ _ _ r h => by simp [selfstabref01_Distances.l2] at h, fun _ _ _ _ _ _ _ r h => by simp [selfstabref01_Distances.l3] at h, fun _ _ _ _ _ _ _ _ r h => by simp [selfstabref01_Distances.j5] at h⟩
 | k + 1 => by
  obtain ⟨ih0, ih1, ih2, ih3, ih4, ih5⟩ := selfstabref01_Distances.mono_l k
  refine ⟨?_, ?_, ?_, ?_, ?_, ?_⟩
  ·
   intro y0 y1 y2 y3
   unfold selfstabref01_Distances.j0
   repeat' first
   | (with_reducible exact ih0 _ _ _ _)
   | (with_reducible exact ih1 _ _ _ _ _ _)
   | (with_reducible exact ih2 _ _ _ _ _)
   | (with_reducible exact ih3 _ _ _ _ _ _)
   | (with_reducible exact ih4 _ _ _ _ _ _ _)
   | (with_reducible exact ih5 _ _ _ _ _ _ _ _)
   | (with_reducible exact LeO.refl _)
   | (with_reducible exact LeO.none _)
   | (with_reducible refine LeO.ite ?_ ?_)
   | (with_reducible refine LeO.bind ?_ (fun _ => ?_))
   | exact ih0 _ _ _ _
   | exact ih1 _ _ _ _ _ _
   | exact ih2 _ _ _ _ _
   | exact ih3 _ _ _ _ _ _
   | exact ih4 _ _ _ _ _ _ _
   | exact ih5 _ _ _ _ _ _ _ _
   | exact LeO.none _
   | refine LeO.ite ?_ ?_
   | refine LeO.bind ?_ (fun _ => ?_)
  ·
   intro y0 y1 y2 y3 y4 y5
   unfold selfstabref01_Distances.l0
   repeat' first
   | (with_reducible exact ih0 _ _ _ _)
   | (with_reducible exact ih1 _ _ _ _ _ _)
   | (with_reducible exact ih2 _ _ _ _ _)
   | (with_reducible exact ih3 _ _ _ _ _ _)
   | (with_reducible exact ih4 _ _ _ _ _ _ _)
   | (with_reducible exact ih5 _ _ _ _ _ _ _ _)
   | (with_reducible exact LeO.refl _)
   | (with_reducible exact LeO.none _)
   | (with_reducible refine LeO.ite ?_ ?_)
   | (with_reducible refine LeO.bind ?_ (fun _ => ?_))
   | exact ih0 _ _ _ _
   | exact ih1 _ _ _ _ _ _
   | exact ih2 _ _ _ _ _
   | exact ih3 _ _ _ _ _ _
   | exact ih4 _ _ _ _ _ _ _
   | exact ih5 _ _ _ _ _ _ _ _
   | exact LeO.none _
   | refine LeO.ite ?_ ?_
   | refine LeO.bind ?_ (fun _ => ?_)
  ·
   intro y0 y1 y2 y3 y4
   unfold selfstabref01_Distances.l1
   repeat' first
   | (with_reducible exact ih0 _ _ _ _)
   | (with_reducible exact ih1 _ _ _ _ _ _)
   | (with_reducible exact ih2 _ _ _ _ _)
   | (with_reducible exact ih3 _ _ _ _ _ _)
   | (with_reducible exact ih4 _ _ _ _ _ _ _)
   | (with_reducible exact ih5 _ _ _ _ _ _ _ _)
   | (with_reducible exact LeO.refl _)
   | (with_reducible exact LeO.none _)
   | (with_reducible refine LeO.ite ?_ ?_)
   | (with_reducible refine LeO.bind ?_ (fun _ => ?_))
   | exact ih0 _ _ _ _
   | exact ih1 _ _ _ _ _ _
   | exact ih2 _ _ _ _ _
   | exact ih3 _ _ _ _ _ _
   | exact ih4 _ _ _ _ _ _ _
   | exact ih5 _ _ _ _ _ _ _ _
   | exact LeO.none _
   | refine LeO.ite ?_ ?_
   | refine LeO.bind ?_ (fun _ => ?_)
  ·
   intro y0 y1 y2 y3 y4 y5
   unfold selfstabref01_Distances.l2
   repeat' first
   | (with_reducible exact ih0 _ _ _ _)
   | (with_reducible exact ih1 _ _ _ _ _ _)
   | (with_reducible exact ih2 _ _ _ _ _)
   | (with_reducible exact ih3 _ _ _ _ _ _)
   | (with_reducible exact ih4 _ _ _ _ _ _ _)
   | (with_reducible exact ih5 _ _ _ _ _ _ _ _)
   | (with_reducible exact LeO.refl _)
   | (with_reducible exact LeO.none _)
   | (with_reducible refine LeO.ite ?_ ?_)
   | (with_reducible refine LeO.bind ?_ (fun _ => ?_))
   | exact ih0 _ _ _ _
   | exact ih1 _ _ _ _ _ _
   | exact ih2 _ _ _ _ _
   | exact ih3 _ _ _ _ _ _
   | exact ih4 _ _ _ _ _ _ _
   | exact ih5 _ _ _ _ _ _ _ _
   | exact LeO.none _
   | refine LeO.ite ?_ ?_
   | refine LeO.bind ?_ (fun _ => ?_)
  ·
   intro y0 y1 y2 y3 y4 y5 y6
   unfold selfstabref01_Distances.l3
   repeat' first
   | (with_reducible exact ih0 _ _ _ _)
   | (with_reducible exact ih1 _ _ _ _ _ _)
   | (with_reducible exact ih2 _ _ _ _ _)
   | (with_reducible exact ih3 _ _ _ _ _ _)
   | (with_reducible exact ih4 _ _ _ _ _ _ _)
   | (with_reducible exact ih5 _ _ _ _ _ _ _ _)
   | (with_reducible exact LeO.refl _)
   | (with_reducible exact LeO.none _)
   | (with_reducible refine LeO.ite ?_ ?_)
   | (with_reducible refine LeO.bind ?_ (fun _ => ?_))
   | exact ih0 _ _ _ _
   | exact ih1 _ _ _ _ _ _
   | exact ih2 _ _ _ _ _
   | exact ih3 _ _ _ _ _ _
   | exact ih4 _ _ _ _ _ _ _
   | exact ih5 _ _ _ _ _ _ _ _
   | exact LeO.none _
   | refine LeO.ite ?_ ?_
   | refine LeO.bind ?_ (fun _ => ?_)
  ·
   intro y0 y1 y2 y3 y4 y5 y6 y7
   unfold selfstabref01_Distances.j5
   repeat' first
   | (with_reducible exact ih0 _ _ _ _)
   | (with_reducible exact ih1 _ _ _ _ _ _)
   | (with_reducible exact ih2 _ _ _ _ _)
   | (with_reducible exact ih3 _ _ _ _ _ _)
   | (with_reducible exact ih4 _ _ _ _ _ _ _)
   | (with_reducible exact ih5 _ _ _ _ _ _ _ _)
   | (with_reducible exact LeO.refl _)
   | (with_reducible exact LeO.none _)
   | (with_reducible refine LeO.ite ?_ ?_)
   | (with_reducible refine LeO.bind ?_ (fun _ => ?_))
   | exact ih0 _ _ _ _
   | exact ih1 _ _ _ _ _ _
   | exact ih2 _ _ _ _ _
   | exact ih3 _ _ _ _ _ _
   | exact ih4 _ _ _ _ _ _ _
   | exact ih5 _ _ _ _ _ _ _ _
   | exact LeO.none _
   | refine LeO.ite ?_ ?_
   | refine LeO.bind ?_ (fun _ => ?_)
theorem selfstabref01_Distances.mono : ∀ a0 a1 a2 k, LeO (selfstabref01_Distances.f k a0 a1 a2) (selfstabref01_Distances.f (k + 1) a0 a1 a2) := by
 intro a0 a1 a2 k
 obtain ⟨ih0, ih1, ih2, ih3, ih4, ih5⟩ := selfstabref01_Distances.mono_l k
 unfold selfstabref01_Distances.f
 repeat' first
   | (with_reducible exact ih0 _ _ _ _)
   | (with_reducible exact ih1 _ _ _ _ _ _)
   | (with_reducible exact ih2 _ _ _ _ _)
   | (with_reducible exact ih3 _ _ _ _ _ _)
   | (with_reducible exact ih4 _ _ _ _ _ _ _)
   | (with_reducible exact ih5 _ _ _ _ _ _ _ _)
   | (with_reducible exact LeO.refl _)
   | (with_reducible exact LeO.none _)
   | (with_reducible refine LeO.ite ?_ ?_)
   | (with_reducible refine LeO.bind ?_ (fun _ => ?_))
   | exact ih0 _ _ _ _
   | exact ih1 _ _ _ _ _ _
   | exact ih2 _ _ _ _ _
   | exact ih3 _ _ _ _ _ _
   | exact ih4 _ _ _ _ _ _ _
   | exact ih5 _ _ _ _ _ _ _ _
   | exact LeO.none _
   | refine LeO.ite ?_ ?_
   | refine LeO.bind ?_ (fun _ => ?_)
set_option maxHeartbeats 8000000 in
set_option maxRecDepth 100000 in
theorem selfstabref01_Distances.calls (k : Nat) (A0_0 : Option Addr) (c0_0 : Nat) (l0_0 : List Int) (A0_1 : Option Addr) (c0_1 : Nat) (l0_1 : List (List (S60))) (a1 : Int) (r : List Int) (w : World) (hr0_0 : Kd.C (Kd.int .i64) w A0_0 l0_0.length l0_0) (hc0_0 : l0_0.length ≤ c0_0) (hr0_1 : Kd.C (Kd.slice 60 k60) w A0_1 l0_1.length l0_1) (hc0_1 : l0_1.length ≤ c0_1) (h : selfstabref01_Distances.f k l0_0 l0_1 a1 = some r) :
  Calls Try.prog 123 #[.agg #[.slice A0_0 l0_0.length c0_0, .slice A0_1 l0_1.length c0_1], .int .i64 a1] w fun e w' => ∃ v0_ : Value, e = .returned (v0_) ∧ Kd.R (Kd.int .i64) 3 w' w.heap.size (fun _ => True) v0_ r ∧ Below w.heap.size w w' := by
 have hu27 := Try.underlying27
 have HR0_0 := Aside0.mk hr0_0
 have HC0_0 := Aside0.mk hc0_0
 clear hr0_0 hc0_0
 have HR0_1 := Aside0.mk hr0_1
 have HC0_1 := Aside0.mk hc0_1
 clear hr0_1 hc0_1
 have HB := Aside0.mk (Below.refl w.heap.size w)
 have H : ((selfstabref01_Valid.f l0_0 l0_1).bind fun t546 => (if t546 = true then ((selfstabref01_In.f a1 0 (wrap64 ((l0_1.length : Int) - 1))).bind fun t547 => (selfstabref01_Distances.j0 k a1 (!t547) l0_0 l0_1)) else (selfstabref01_Distances.j0 k a1 true l0_0 l0_1))) = some r := h
 clear h
 have HC3 := Aside0.mk H
 clear H
 go_enter Try.func123, Try.ntmps123
 go_upto_region 1 with (first | ((with_reducible refine gate_dst (N := 2) rfl ?_); (try (refine gate_guard (by rfl) ?_; dsimp only)); refine box_event ?hg (N := 2) ?hd (cs := #[.slice A0_0 l0_0.length c0_0, .slice A0_1 l0_1.length c0_1]) (t := 27) ?hr ?_; (case hd => rfl); (case hg => rfl); (case hr => first | (go_simp; done) | (go_simp; rfl)); intro gb545 hg w4 hbox hb; have n0_ := Aside0.mk (below_step (by repeat (first | (with_reducible first | exact HB.out | apply below_alloc | apply pw_below_drewN | apply below_drew1) | exact HB.out)) hb); have n1_ := Aside0.mk (hbox); have n2_ := Aside0.mk ((by rw [hg]; exact (below_size (by repeat (first | (with_reducible first | exact HB.out | apply below_alloc | apply pw_below_drewN | apply below_drew1) | exact HB.out))) : w.heap.size ≤ gb545)); have n3_ := Aside0.mk ((by rw [hg]; exact (below_size (by repeat (first | (with_reducible first | exact HB.out | apply below_alloc | apply pw_below_drewN | apply below_drew1) | exact HB.out))) : w.heap.size ≤ gb545)); clear HB; have HB := n0_; have BK545 := n1_; have GW545 := n2_; have GE545 := n3_; clear n0_ n1_ n2_ n3_; clear hb hbox hg))
 (try simp only [Act.put, List.setIfInBounds_toArray, List.set_cons_zero, List.set_cons_succ])
 go_cut [22] (fun v22 wc => ∃ (kq : Nat) (x22_2 : Bool), v22 = .bool x22_2 ∧ Aside0 (selfstabref01_Distances.j0 kq a1 x22_2 l0_0 l0_1 = some r) ∧ Aside0 (kq ≤ k) ∧ Aside0 (wc.heap[gb545]? = some (.cells #[(.slice A0_0 l0_0.length c0_0), (.slice A0_1 l0_1.length c0_1)] 27 (0, 0))) ∧ Aside0 (Below w.heap.size w wc))
 case first =>
  have H := HC3.out
  clear HC3
  replace H := Option.bind_eq_some_iff.mp H
  obtain ⟨t546, A50, H⟩ := H
  replace H : (if t546 = true then ((selfstabref01_In.f a1 0 (wrap64 ((l0_1.length : Int) - 1))).bind fun t547 => (selfstabref01_Distances.j0 k a1 (!t547) l0_0 l0_1)) else (selfstabref01_Distances.j0 k a1 true l0_0 l0_1)) = some r := H
  have A5 := Aside0.mk A50
  clear A50
  by_cases c6 : t546 = true
  ·
   subst c6
   have H1 : ((selfstabref01_In.f a1 0 (wrap64 ((l0_1.length : Int) - 1))).bind fun t547 => (selfstabref01_Distances.j0 k a1 (!t547) l0_0 l0_1)) = some r := by rw [if_pos rfl] at H; exact H
   clear H
   have H := H1
   clear H1
   replace H := Option.bind_eq_some_iff.mp H
   obtain ⟨t547, A70, H⟩ := H
   replace H : (selfstabref01_Distances.j0 k a1 (!t547) l0_0 l0_1) = some r := H
   have A7 := Aside0.mk A70
   clear A70
   have H' := Aside0.mk H
   clear H
   have hcz8_0 : w4.cell? ⟨gb545, 0, none⟩ = some (.slice A0_0 l0_0.length c0_0) := (blk_cell BK545.out 0).trans rfl
   have hcz8_1 : w4.cell? ⟨gb545, 1, none⟩ = some (.slice A0_1 l0_1.length c0_1) := (blk_cell BK545.out 1).trans rfl
   have hfz8_0 := blk_frozen BK545.out 0
   have hfz8_1 := blk_frozen BK545.out 1
   go_wp2_with (first | ((with_reducible refine gate_callee (f := 75) rfl ?_); refine goesL_ (some 12) rfl rfl Try.func75 (by kernel_rfl) rfl #[.agg #[.slice A0_0 l0_0.length c0_0, .slice A0_1 l0_1.length c0_1]] rfl (by (try simp only [List.map_toArray, List.map_cons, List.map_nil]); first | done | rfl | (simp only [List.length_drop, List.length_take]; rfl)) ?_; (with_reducible refine (selfstabref01_Valid.calls _ _ l0_0 _ _ l0_1 true _ ?side1 ?side2 ?side3 ?side4 A5.out).mono ?_); (case side1 => repeat (first | exact (Kd.C_below HR0_0.out HB.out) | (with_reducible refine Kd.C_alloc ?_ _) | (with_reducible refine Kd.C_drewN ?_ _) | (with_reducible refine Kd.C_drew ?_))); (case side2 => exact HC0_0.out); (case side3 => repeat (first | exact (Kd.C_below HR0_1.out HB.out) | (with_reducible refine Kd.C_alloc ?_ _) | (with_reducible refine Kd.C_drewN ?_ _) | (with_reducible refine Kd.C_drew ?_))); (case side4 => exact HC0_1.out); rintro e w9 ⟨rfl, hb⟩; refine ⟨_, rfl, ?_⟩; have n0_ := Aside0.mk (blk_below (g := gb545) (o := .cells #[.slice A0_0 l0_0.length c0_0, .slice A0_1 l0_1.length c0_1] 27 (0, 0)) (by (with_reducible repeat (first | refine blk_drewN ?_ _ | refine blk_drew ?_ | refine blk_alloc ?_ _)); exact BK545.out) hb); have n1_ := Aside0.mk (below_step (by repeat (first | (with_reducible first | exact HB.out | apply below_alloc | apply pw_below_drewN | apply below_drew1 | refine below_set ?_ GE545.out) | exact HB.out)) hb); clear BK545; clear HB; have BK545 := n0_; have HB := n1_; clear n0_ n1_; (try clear hb); (try clear hb2); (try clear hk); (try clear hi); have hcz10_0 : w9.cell? ⟨gb545, 0, none⟩ = some (.slice A0_0 l0_0.length c0_0) := (blk_cell BK545.out 0).trans rfl; have hcz10_1 : w9.cell? ⟨gb545, 1, none⟩ = some (.slice A0_1 l0_1.length c0_1) := (blk_cell BK545.out 1).trans rfl; have hfz10_0 := blk_frozen BK545.out 0; have hfz10_1 := blk_frozen BK545.out 1) | (go_at_call 116; (with_reducible refine (selfstabref01_In.calls a1 0 (wrap64 ((l0_1.length : Int) - 1)) t547 _ A7.out).mono ?_); rintro e w' ⟨rfl, ⟨nd, rfl⟩⟩))
   go_meet
   case rel => exact ⟨_, (!t547), (by first | rfl | (simp; done) | (simp [*]; done)), H', ⟨by first | omega | exact Nat.le_refl _⟩, ⟨by (with_reducible repeat (first | refine blk_drewN ?_ _ | refine blk_drew ?_ | refine blk_alloc ?_ _)); exact BK545.out⟩, ⟨by repeat (first | (with_reducible first | exact HB.out | apply below_alloc | apply pw_below_drewN | apply below_drew1 | refine below_set ?_ GE545.out) | exact HB.out)⟩⟩
  ·
   replace c6 := Bool.eq_false_iff.mpr c6
   subst c6
   have H1 : (selfstabref01_Distances.j0 k a1 true l0_0 l0_1) = some r := by rw [if_neg (show ¬ (false = true) by decide)] at H; exact H
   clear H
   have H := H1
   clear H1
   have H' := Aside0.mk H
   clear H
   have hcz11_0 : w4.cell? ⟨gb545, 0, none⟩ = some (.slice A0_0 l0_0.length c0_0) := (blk_cell BK545.out 0).trans rfl
   have hcz11_1 : w4.cell? ⟨gb545, 1, none⟩ = some (.slice A0_1 l0_1.length c0_1) := (blk_cell BK545.out 1).trans rfl
   have hfz11_0 := blk_frozen BK545.out 0
   have hfz11_1 := blk_frozen BK545.out 1
   go_wp2_with (first | ((with_reducible refine gate_callee (f := 75) rfl ?_); refine goesL_ (some 12) rfl rfl Try.func75 (by kernel_rfl) rfl #[.agg #[.slice A0_0 l0_0.length c0_0, .slice A0_1 l0_1.length c0_1]] rfl (by (try simp only [List.map_toArray, List.map_cons, List.map_nil]); first | done | rfl | (simp only [List.length_drop, List.length_take]; rfl)) ?_; (with_reducible refine (selfstabref01_Valid.calls _ _ l0_0 _ _ l0_1 false _ ?side1 ?side2 ?side3 ?side4 A5.out).mono ?_); (case side1 => repeat (first | exact (Kd.C_below HR0_0.out HB.out) | (with_reducible refine Kd.C_alloc ?_ _) | (with_reducible refine Kd.C_drewN ?_ _) | (with_reducible refine Kd.C_drew ?_))); (case side2 => exact HC0_0.out); (case side3 => repeat (first | exact (Kd.C_below HR0_1.out HB.out) | (with_reducible refine Kd.C_alloc ?_ _) | (with_reducible refine Kd.C_drewN ?_ _) | (with_reducible refine Kd.C_drew ?_))); (case side4 => exact HC0_1.out); rintro e w12 ⟨rfl, hb⟩; refine ⟨_, rfl, ?_⟩; have n0_ := Aside0.mk (blk_below (g := gb545) (o := .cells #[.slice A0_0 l0_0.length c0_0, .slice A0_1 l0_1.length c0_1] 27 (0, 0)) (by (with_reducible repeat (first | refine blk_drewN ?_ _ | refine blk_drew ?_ | refine blk_alloc ?_ _)); exact BK545.out) hb); have n1_ := Aside0.mk (below_step (by repeat (first | (with_reducible first | exact HB.out | apply below_alloc | apply pw_below_drewN | apply below_drew1 | refine below_set ?_ GE545.out) | exact HB.out)) hb); clear BK545; clear HB; have BK545 := n0_; have HB := n1_; clear n0_ n1_; (try clear hb); (try clear hb2); (try clear hk); (try clear hi)))
   go_meet
   case rel => exact ⟨_, (true), (by first | rfl | (simp; done) | (simp [*]; done)), H', ⟨by first | omega | exact Nat.le_refl _⟩, ⟨by (with_reducible repeat (first | refine blk_drewN ?_ _ | refine blk_drew ?_ | refine blk_alloc ?_ _)); exact BK545.out⟩, ⟨by repeat (first | (with_reducible first | exact HB.out | apply below_alloc | apply pw_below_drewN | apply below_drew1 | refine below_set ?_ GE545.out) | exact HB.out)⟩⟩
 case rest =>
  clear HC3
  try clear c1
  try clear p2
  try clear c6
  try clear p6
  try clear c7
  try clear c12
  try clear hcz10_0
  try clear hcz10_1
  try clear hcz11_0
  try clear hcz11_1
  try clear hcz8_0
  try clear hcz8_1
  try clear hfz10_0
  try clear hfz10_1
  try clear hfz11_0
  try clear hfz11_1
  try clear hfz8_0
  try clear hfz8_1
  obtain ⟨kq, x22_2, rfl, HA, HJ2, BK545, HB⟩ := hcut
  cases kq with
  | zero => exact absurd HA.out (by simp [selfstabref01_Distances.j0])
  | succ kj2 =>
   have H := HA.out
   clear HA
   simp only [selfstabref01_Distances.j0] at H
   by_cases c13 : x22_2 = true
   ·
    subst c13
    have H1 : (some ([] : List Int)) = some r := by rw [if_pos rfl] at H; exact H
    clear H
    have H := H1
    clear H1
    obtain rfl := Option.some.inj H
    go_wp2
    go_ret
    exact ⟨_, by first | rfl | (simp [errW_none, errW_some] <;> rfl) | (simp [*, errW_none, errW_some] <;> rfl), by first | exact Kd.R_nil _ _ _ _ _ | exact Kd.N_nil _ _ _ _ _ | exact Kd.V_nil _ _ _ _ _ | exact Kd.Q_nil _ _ _ _ _ | exact Kd.S_nil _ _ _ _ _, by repeat (first | (with_reducible first | exact HB.out | apply below_alloc | apply pw_below_drewN | apply below_drew1 | refine below_set ?_ GE545.out) | exact HB.out)⟩
   ·
    replace c13 := Bool.eq_false_iff.mpr c13
    subst c13
    have H1 : (selfstabref01_Distances.l0 kj2 a1 (l0_1.length : Int) ([] : List Int) 0 l0_0 l0_1) = some r := by rw [if_neg (show ¬ (false = true) by decide)] at H; exact H
    clear H
    have H := H1
    clear H1
    have H' := Aside0.mk H
    clear H
    have hcz14_0 : wc.cell? ⟨gb545, 0, none⟩ = some (.slice A0_0 l0_0.length c0_0) := (blk_cell BK545.out 0).trans rfl
    have hcz14_1 : wc.cell? ⟨gb545, 1, none⟩ = some (.slice A0_1 l0_1.length c0_1) := (blk_cell BK545.out 1).trans rfl
    have hfz14_0 := blk_frozen BK545.out 0
    have hfz14_1 := blk_frozen BK545.out 1
    go_wp2
    go_loopg [6, 7] kj2 (fun kq v6 v7 w' => ∃ (x6_2 : List Int) (x7_2 : Int), v7 = .int .i64 x7_2 ∧ Aside0 (selfstabref01_Distances.l0 kq a1 (l0_1.length : Int) x6_2 x7_2 l0_0 l0_1 = some r) ∧ Aside0 (kq ≤ kj2) ∧ Aside0 (Kd.R (Kd.int .i64) 3 w' w.heap.size (fun _ => True) v6 x6_2) ∧ Aside0 (w'.heap[gb545]? = some (.cells #[(.slice A0_0 l0_0.length c0_0), (.slice A0_1 l0_1.length c0_1)] 27 (0, 0))) ∧ Aside0 (Below w.heap.size w w'))
    case atStart => exact ⟨(([] : List Int)), (0), (by first | rfl | (simp; done) | (simp [*]; done)), H', ⟨Nat.le_refl _⟩, ⟨by first | exact Kd.R_nil _ _ _ _ _ | exact Kd.N_nil _ _ _ _ _ | exact Kd.V_nil _ _ _ _ _ | exact Kd.Q_nil _ _ _ _ _ | exact Kd.S_nil _ _ _ _ _⟩, ⟨by (with_reducible repeat (first | refine blk_drewN ?_ _ | refine blk_drew ?_ | refine blk_alloc ?_ _)); exact BK545.out⟩, ⟨by repeat (first | (with_reducible first | exact HB.out | apply below_alloc | apply pw_below_drewN | apply below_drew1 | refine below_set ?_ GE545.out) | exact HB.out)⟩⟩
    case round =>
     clear H'
     try clear c1
     try clear p2
     try clear c6
     try clear p6
     try clear c7
     try clear c12
     try clear c13
     try clear hcz10_0
     try clear hcz10_1
     try clear hcz11_0
     try clear hcz11_1
     try clear hcz14_0
     try clear hcz14_1
     try clear hcz8_0
     try clear hcz8_1
     try clear hfz10_0
     try clear hfz10_1
     try clear hfz11_0
     try clear hfz11_1
     try clear hfz14_0
     try clear hfz14_1
     try clear hfz8_0
     try clear hfz8_1
     try clear p2
     try clear p6
     obtain ⟨x6_2, x7_2, rfl, HA, HK2, HO_6, BK545, HB⟩ := hrel
     cases gk with
     | zero => exact absurd HA.out (by simp [selfstabref01_Distances.l0])
     | succ k2 =>
      have H := HA.out
      clear HA
      simp only [selfstabref01_Distances.l0] at H
      by_cases c15 : x7_2 < (l0_1.length : Int)
      ·
       rw [if_pos c15] at H
       have c15b0 : decide (x7_2 < (l0_1.length : Int)) = true := decide_eq_true c15
       clear c15
       by_cases c16 : x6_2.length < 17592186044416
       ·
        rw [if_pos c16] at H
        have LMc16 := Aside0.mk c16
        clear c16
        obtain ⟨y548, hy548⟩ : ∃ y_ : List Int, y_ = (x6_2 ++ [(-1)]) := ⟨_, rfl⟩
        replace H : (selfstabref01_Distances.l0 k2 a1 (l0_1.length : Int) y548 (wrap64 (x7_2 + 1)) l0_0 l0_1) = some r := by first | (rw [hy548]; with_reducible exact H) | (have H2_ := (Option.bind_some _ _).symm.trans H; rw [hy548]; with_reducible exact H2_) | (have H2_ := (Option.bind_some _ _).symm.trans H; with_reducible exact H2_) | with_reducible exact H | (rw [hy548]; exact H) | exact H
        have Ny548 := Aside0.mk hy548
        clear hy548
        have H' := Aside0.mk H
        clear H
        go_wp2_with (first | ((with_reducible refine gate_builtin (b := .append) (xs := #[.tmp 31, .tmp 32]) rfl ?_); (try (refine gate_guard (by rfl) ?_; dsimp only)); at_builtin; refine Kd.R_append (Kd.int .i64) (w0 := w) w.heap.size rfl (.tmp 31) (.tmp 32) 22 3 (.int .i64 0) 8 rfl Try.underlying22 info3 rfl (by decide) (by omega) u6 x6_2 (-1) [.int .i64 (-1)] (fun _ => True) (fun _ => False) rfl rfl ?aP (fun _ hk => hk.elim) ?aF ?aO ?aB ?aS ?aL ?_; (case aP => exact rfl); (case aB => exact (by repeat (first | (with_reducible first | exact HB.out | apply below_alloc | apply pw_below_drewN | apply below_drew1 | refine below_set ?_ GE545.out) | exact HB.out))); (case aF => exact (fun _ _ => trivial)); (case aO => exact (by (with_reducible repeat (first | apply Kd.R_alloc | apply Kd.R_drewN | apply Kd.R_drew)); exact HO_6.out)); (case aS => exact (below_size (by repeat (first | (with_reducible first | exact HB.out | apply below_alloc | apply pw_below_drewN | apply below_drew1 | refine below_set ?_ GE545.out) | exact HB.out)))); (case aL => have := LMc16.out; omega); intro v549 w17 ho hb hg hat; rw [← Ny548.out] at ho; have n0_ := Aside0.mk (blk_grown (g := gb545) (o := .cells #[.slice A0_0 l0_0.length c0_0, .slice A0_1 l0_1.length c0_1] 27 (0, 0)) (by (with_reducible repeat (first | refine blk_drewN ?_ _ | refine blk_drew ?_ | refine blk_alloc ?_ _)); exact BK545.out) hg (Kd.R_ne HO_6.out BK545.out (by decide))); have n1_ := Aside0.mk (hb); have n2_ := Aside0.mk (ho); clear BK545; clear HB; clear HO_6; have BK545 := n0_; have HB := n1_; have HO550 := n2_; clear n0_ n1_ n2_; clear ho hb hg hat))
        go_roundg k2
        case measure => have := HJ2.out; have := HK2.out; omega
        case rel => exact ⟨(y548), (wrap64 (x7_2 + 1)), (by first | rfl | (simp; done) | (simp [*]; done)), H', ⟨by have := HJ2.out; have := HK2.out; omega⟩, ⟨by (with_reducible repeat (first | apply Kd.R_alloc | apply Kd.R_drewN | apply Kd.R_drew)); exact HO550.out⟩, ⟨by (with_reducible repeat (first | refine blk_drewN ?_ _ | refine blk_drew ?_ | refine blk_alloc ?_ _)); exact BK545.out⟩, ⟨by repeat (first | (with_reducible first | exact HB.out | apply below_alloc | apply pw_below_drewN | apply below_drew1 | refine below_set ?_ GE545.out) | exact HB.out)⟩⟩
       ·
        rw [if_neg c16] at H
        exact absurd H (by simp)
      ·
       rw [if_neg c15] at H
       have c15b0 : decide (x7_2 < (l0_1.length : Int)) = false := decide_eq_false c15
       clear c15
       by_cases c18 : 0 ≤ a1
       ·
        rw [if_pos c18] at H
        have c18b0 : decide (0 ≤ a1) = true := decide_eq_true c18
        clear c18
        by_cases c19 : a1 < (x6_2.length : Int)
        ·
         rw [if_pos c19] at H
         have c19b0 : decide (a1 < (x6_2.length : Int)) = true := decide_eq_true c19
         clear c19
         obtain ⟨y551, hy551⟩ : ∃ y_ : List Int, y_ = (x6_2.set (a1 : Int).toNat 0) := ⟨_, rfl⟩
         replace H : (selfstabref01_Distances.l1 k2 (l0_1.length : Int) y551 1 l0_0 l0_1) = some r := by first | (rw [hy551]; with_reducible exact H) | (have H2_ := (Option.bind_some _ _).symm.trans H; rw [hy551]; with_reducible exact H2_) | (have H2_ := (Option.bind_some _ _).symm.trans H; with_reducible exact H2_) | with_reducible exact H | (rw [hy551]; exact H) | exact H
         have Ny551 := Aside0.mk hy551
         clear hy551
         have H' := Aside0.mk H
         clear H
         have p20 : 0 ≤ (a1 : Int) := of_decide_eq_true (by first | (with_reducible assumption) | assumption)
         have q20 : (a1 : Int) < ((x6_2.length : Int) : Int) := of_decide_eq_true (by first | (with_reducible assumption) | assumption)
         obtain ⟨go20, co20, eo20, gb20, gl20, cl20, HG20⟩ := Kd.R_form HO_6.out (by omega)
         (first | cases eo20 | (injection eo20 with ea_ en_ ec_; (first | subst ea_ | (injection ea_ with ea_; subst ea_)); subst ec_; clear en_))
         have GB20 := Aside0.mk gb20
         have GG20 := Aside0.mk HG20
         clear gb20 gl20 HG20
         obtain ⟨hx20_0, hf20_0⟩ := Kd.R_celln 0 HO_6.out (a1 : Int) p20 q20
         replace p20 := eq_true p20
         replace q20 := eq_true q20
         have HP21 := Kd.R_putg HO_6.out (a1 : Int) 0
         go_wp2_with (first | ((with_reducible refine gate_store (t := 3) (p := 36) rfl ?_); refine store_event (t := 3) (p := 36) (v := ?vo_w22) (w1 := (wr.setCell ⟨go20, (a1 : Int).toNat, none⟩ (.int .i64 0))) ?hg ?ho ?hn ?hr ?_; (case ho => rfl); (case hg => rfl); (case hn => rfl); (case hr => first | (go_simp; done) | (go_simp; rfl)); intro w22 hw; have hg : wr.grownBy w22 (some go20) := (by rw [hw]; exact HP21.2); have hp_ : Kd.R (Kd.int .i64) 3 w22 w.heap.size (fun _ => True) (.slice (some ⟨go20, 0, none⟩) x6_2.length co20) y551 := (by rw [hw, Ny551.out]; exact HP21.1); clear HP21; have n0_ := Aside0.mk (hp_); have n1_ := Aside0.mk (blk_grown (g := gb545) (o := .cells #[.slice A0_0 l0_0.length c0_0, .slice A0_1 l0_1.length c0_1] 27 (0, 0)) (by (with_reducible repeat (first | refine blk_drewN ?_ _ | refine blk_drew ?_ | refine blk_alloc ?_ _)); exact BK545.out) hg (Kd.R_ne HO_6.out BK545.out (by decide))); have n2_ := Aside0.mk ((by rw [hw]; exact below_set (HB.out) GB20.out : Below w.heap.size w w22)); clear HO_6; clear BK545; clear HB; have HO_6 := n0_; have BK545 := n1_; have HB := n2_; clear n0_ n1_ n2_; clear hg hw hp_))
         go_loopg [8] k2 (fun kq v8 w' => ∃ (x6_3 : List Int) (x8_3 : Int), v8 = .int .i64 x8_3 ∧ Aside0 (selfstabref01_Distances.l1 kq (l0_1.length : Int) x6_3 x8_3 l0_0 l0_1 = some r) ∧ Aside0 (kq ≤ k2) ∧ Aside0 (Kd.R (Kd.int .i64) 3 w' w.heap.size (fun _ => True) (.slice (some ⟨go20, 0, none⟩) x6_2.length co20) x6_3) ∧ Aside0 (w'.heap[gb545]? = some (.cells #[(.slice A0_0 l0_0.length c0_0), (.slice A0_1 l0_1.length c0_1)] 27 (0, 0))) ∧ Aside0 (Below w.heap.size w w'))
         case atStart => exact ⟨(y551), (1), (by first | rfl | (simp; done) | (simp [*]; done)), H', ⟨Nat.le_refl _⟩, ⟨by (with_reducible repeat (first | apply Kd.R_alloc | apply Kd.R_drewN | apply Kd.R_drew)); exact HO_6.out⟩, ⟨by (with_reducible repeat (first | refine blk_drewN ?_ _ | refine blk_drew ?_ | refine blk_alloc ?_ _)); exact BK545.out⟩, ⟨by repeat (first | (with_reducible first | exact HB.out | apply below_alloc | apply pw_below_drewN | apply below_drew1 | refine below_set ?_ GE545.out) | exact HB.out)⟩⟩
         case round =>
          clear H'
          try clear c1
          try clear p2
          try clear q2
          try clear hx2
          try clear hf2
          try clear c6
          try clear p6
          try clear c7
          try clear c12
          try clear c13
          try clear c15
          try clear c15b0
          try clear c16
          try clear c18
          try clear c18b0
          try clear c19
          try clear c19b0
          try clear p20
          try clear q20
          try clear hx20
          try clear hf20
          try clear hcz10_0
          try clear hcz10_1
          try clear hcz11_0
          try clear hcz11_1
          try clear hcz14_0
          try clear hcz14_1
          try clear hcz8_0
          try clear hcz8_1
          try clear hfz10_0
          try clear hfz10_1
          try clear hfz11_0
          try clear hfz11_1
          try clear hfz14_0
          try clear hfz14_1
          try clear hfz8_0
          try clear hfz8_1
          try clear hx20_0
          try clear p2
          try clear p20
          try clear p6
          try clear q20
          obtain ⟨x6_3, x8_3, rfl, HA, HK3, HO_6, BK545, HB⟩ := hrel
          have hl6_3 := (Kd.R_reads' HO_6.out).1
          rw [hl6_3] at HO_6
          (try simp only [hl6_3])
          (try simp only [hl6_3] at BK545)
          cases gk with
          | zero => exact absurd HA.out (by simp [selfstabref01_Distances.l1])
          | succ k3 =>
           have H := HA.out
           clear HA
           simp only [selfstabref01_Distances.l1] at H
           by_cases c23 : x8_3 < (l0_1.length : Int)
           ·
            rw [if_pos c23] at H
            have c23b0 : decide (x8_3 < (l0_1.length : Int)) = true := decide_eq_true c23
            clear c23
            have H' := Aside0.mk H
            clear H
            go_wp2
            go_loopg [9] k3 (fun kq v9 w' => ∃ (x6_4 : List Int) (x9_4 : Int), v9 = .int .i64 x9_4 ∧ Aside0 (selfstabref01_Distances.l2 kq (l0_1.length : Int) x6_4 x8_3 x9_4 l0_0 l0_1 = some r) ∧ Aside0 (kq ≤ k3) ∧ Aside0 (Kd.R (Kd.int .i64) 3 w' w.heap.size (fun _ => True) (.slice (some ⟨go20, 0, none⟩) x6_3.length co20) x6_4) ∧ Aside0 (w'.heap[gb545]? = some (.cells #[(.slice A0_0 l0_0.length c0_0), (.slice A0_1 l0_1.length c0_1)] 27 (0, 0))) ∧ Aside0 (Below w.heap.size w w'))
            case atStart => exact ⟨(x6_3), (0), (by first | rfl | (simp; done) | (simp [*]; done)), H', ⟨Nat.le_refl _⟩, ⟨by (try simp only [hl6_3]); (with_reducible repeat (first | apply Kd.R_alloc | apply Kd.R_drewN | apply Kd.R_drew)); exact HO_6.out⟩, ⟨by (try simp only [hl6_3]); (with_reducible repeat (first | refine blk_drewN ?_ _ | refine blk_drew ?_ | refine blk_alloc ?_ _)); exact BK545.out⟩, ⟨by repeat (first | (with_reducible first | exact HB.out | apply below_alloc | apply pw_below_drewN | apply below_drew1 | refine below_set ?_ GE545.out) | exact HB.out)⟩⟩
            case round =>
             clear H'
             try clear c1
             try clear c2
             try clear p2
             try clear q2
             try clear hx2
             try clear hf2
             try clear c6
             try clear p6
             try clear c7
             try clear c12
             try clear c13
             try clear c15
             try clear c15b0
             try clear c16
             try clear c18
             try clear c18b0
             try clear c19
             try clear c19b0
             try clear p20
             try clear q20
             try clear hx20
             try clear hf20
             try clear c23
             try clear c23b0
             try clear hcz10_0
             try clear hcz10_1
             try clear hcz11_0
             try clear hcz11_1
             try clear hcz14_0
             try clear hcz14_1
             try clear hcz8_0
             try clear hcz8_1
             try clear hfz10_0
             try clear hfz10_1
             try clear hfz11_0
             try clear hfz11_1
             try clear hfz14_0
             try clear hfz14_1
             try clear hfz8_0
             try clear hfz8_1
             try clear hx20_0
             try clear p2
             try clear p20
             try clear p6
             try clear q2
             try clear q20
             obtain ⟨x6_4, x9_4, rfl, HA, HK4, HO_6, BK545, HB⟩ := hrel
             have hl6_4 := (Kd.R_reads' HO_6.out).1
             rw [hl6_4] at HO_6
             (try simp only [hl6_4])
             (try simp only [hl6_4] at BK545)
             cases gk with
             | zero => exact absurd HA.out (by simp [selfstabref01_Distances.l2])
             | succ k4 =>
              have H := HA.out
              clear HA
              simp only [selfstabref01_Distances.l2] at H
              by_cases c24 : x9_4 < (l0_1.length : Int)
              ·
               rw [if_pos c24] at H
               have c24b0 : decide (x9_4 < (l0_1.length : Int)) = true := decide_eq_true c24
               clear c24
               have H' := Aside0.mk H
               clear H
               go_wp2
               go_loopg [10] k4 (fun kq v10 w' => ∃ (x6_5 : List Int) (x10_5 : Int), v10 = .int .i64 x10_5 ∧ Aside0 (selfstabref01_Distances.l3 kq (l0_1.length : Int) x6_5 x8_3 x9_4 x10_5 l0_0 l0_1 = some r) ∧ Aside0 (kq ≤ k4) ∧ Aside0 (Kd.R (Kd.int .i64) 3 w' w.heap.size (fun _ => True) (.slice (some ⟨go20, 0, none⟩) x6_4.length co20) x6_5) ∧ Aside0 (w'.heap[gb545]? = some (.cells #[(.slice A0_0 l0_0.length c0_0), (.slice A0_1 l0_1.length c0_1)] 27 (0, 0))) ∧ Aside0 (Below w.heap.size w w'))
               case atStart => exact ⟨(x6_4), (0), (by first | rfl | (simp; done) | (simp [*]; done)), H', ⟨Nat.le_refl _⟩, ⟨by (try simp only [hl6_3]); (try simp only [hl6_4]); (with_reducible repeat (first | apply Kd.R_alloc | apply Kd.R_drewN | apply Kd.R_drew)); exact HO_6.out⟩, ⟨by (try simp only [hl6_3]); (try simp only [hl6_4]); (with_reducible repeat (first | refine blk_drewN ?_ _ | refine blk_drew ?_ | refine blk_alloc ?_ _)); exact BK545.out⟩, ⟨by repeat (first | (with_reducible first | exact HB.out | apply below_alloc | apply pw_below_drewN | apply below_drew1 | refine below_set ?_ GE545.out) | exact HB.out)⟩⟩
               case round =>
                clear H'
                try clear c1
                try clear c2
                try clear p2
                try clear q2
                try clear hx2
                try clear hf2
                try clear c6
                try clear p6
                try clear c7
                try clear c12
                try clear c13
                try clear c15
                try clear c15b0
                try clear c16
                try clear c18
                try clear c18b0
                try clear c19
                try clear c19b0
                try clear p20
                try clear q20
                try clear hx20
                try clear hf20
                try clear c23
                try clear c23b0
                try clear c24
                try clear c24b0
                try clear hcz10_0
                try clear hcz10_1
                try clear hcz11_0
                try clear hcz11_1
                try clear hcz14_0
                try clear hcz14_1
                try clear hcz8_0
                try clear hcz8_1
                try clear hfz10_0
                try clear hfz10_1
                try clear hfz11_0
                try clear hfz11_1
                try clear hfz14_0
                try clear hfz14_1
                try clear hfz8_0
                try clear hfz8_1
                try clear hx20_0
                try clear p2
                try clear p20
                try clear p6
                try clear q2
                try clear q20
                obtain ⟨x6_5, x10_5, rfl, HA, HK5, HO_6, BK545, HB⟩ := hrel
                have hl6_5 := (Kd.R_reads' HO_6.out).1
                rw [hl6_5] at HO_6
                (try simp only [hl6_5])
                (try simp only [hl6_5] at BK545)
                cases gk with
                | zero => exact absurd HA.out (by simp [selfstabref01_Distances.l3])
                | succ k5 =>
                 have H := HA.out
                 clear HA
                 simp only [selfstabref01_Distances.l3] at H
                 have HC25 := Aside0.mk H
                 clear H
                 go_upto_region 17 with (fail)
                 go_cut [61] (fun v61 wc => ∃ (kq : Nat) (x61_24 : Bool), v61 = .bool x61_24 ∧ Aside0 (selfstabref01_Distances.j5 kq (l0_1.length : Int) x6_5 x8_3 x9_4 x10_5 x61_24 l0_0 l0_1 = some r) ∧ Aside0 (kq ≤ k5) ∧ Aside0 (Kd.R (Kd.int .i64) 3 wc w.heap.size (fun _ => True) (.slice (some ⟨go20, 0, none⟩) x6_5.length co20) x6_5) ∧ Aside0 (wc.heap[gb545]? = some (.cells #[(.slice A0_0 l0_0.length c0_0), (.slice A0_1 l0_1.length c0_1)] 27 (0, 0))) ∧ Aside0 (Below w.heap.size w wc))
                 case first =>
                  have H := HC25.out
                  clear HC25
                  by_cases c26 : 0 ≤ x9_4
                  ·
                   rw [if_pos c26] at H
                   have c26b0 : decide (0 ≤ x9_4) = true := decide_eq_true c26
                   clear c26
                   (first | rw [c26b0] | (simp only [i64_w, i32_w]; rw [c26b0]) | skip)
                   by_cases c27 : x9_4 < (l0_1.length : Int)
                   ·
                    rw [if_pos c27] at H
                    have c27b0 : decide (x9_4 < (l0_1.length : Int)) = true := decide_eq_true c27
                    clear c27
                    by_cases c28 : x10_5 < ((rd_L2 l0_1 x9_4).length : Int)
                    ·
                     rw [if_pos c28] at H
                     have c28b0 : decide (x10_5 < ((rd_L2 l0_1 x9_4).length : Int)) = true := decide_eq_true c28
                     clear c28
                     by_cases c29 : x9_4 < (x6_5.length : Int)
                     ·
                      rw [if_pos c29] at H
                      have c29b0 : decide (x9_4 < (x6_5.length : Int)) = true := decide_eq_true c29
                      clear c29
                      have H' := Aside0.mk H
                      clear H
                      have hcz30_0 : wr.cell? ⟨gb545, 0, none⟩ = some (.slice A0_0 l0_0.length c0_0) := (blk_cell BK545.out 0).trans rfl
                      have hcz30_1 : wr.cell? ⟨gb545, 1, none⟩ = some (.slice A0_1 l0_1.length c0_1) := (blk_cell BK545.out 1).trans rfl
                      have hfz30_0 := blk_frozen BK545.out 0
                      have hfz30_1 := blk_frozen BK545.out 1
                      have p552 : 0 ≤ (x9_4 : Int) := of_decide_eq_true (by first | (with_reducible assumption) | assumption)
                      have q552 : x9_4 < (l0_1.length : Int) := of_decide_eq_true (by first | (with_reducible assumption) | assumption)
                      obtain ⟨ad552, A552_0, c552_0, e552, hx552_0, hl552_0, hi552_0⟩ := at_L2 HR0_1.out x9_4 p552 q552
                      cases e552
                      replace hx552_0 := (HB.out.cell (World.block_lt_of_cell? w _ hx552_0)).trans hx552_0
                      have HR552_0 := Aside0.mk hi552_0
                      have HC552_0 := Aside0.mk hl552_0
                      clear hi552_0 hl552_0
                      replace p552 := eq_true p552
                      replace q552 := eq_true q552
                      have p553 : 0 ≤ (x9_4 : Int) := of_decide_eq_true (by first | (with_reducible assumption) | assumption)
                      have q553 : x9_4 < (x6_5.length : Int) := of_decide_eq_true (by first | (with_reducible assumption) | assumption)
                      obtain ⟨ad553, e553, hx553_0⟩ := Kd.at_int (Kd.R_reads' HO_6.out).2.2 x9_4 p553 q553
                      obtain rfl : (⟨go20, 0, none⟩ : Addr) = ad553 := (by injection e553)
                      (first | simp only [add_plain] at hx553_0 | simp only [add_at] at hx553_0 | simp only [Addr.add, Nat.zero_add] at hx553_0 | skip)
                      replace p553 := eq_true p553
                      replace q553 := eq_true q553
                      go_wp2
                      go_meet
                      case rel => exact ⟨_, (decide ((rd x6_5 x9_4) < 0)), (by first | rfl | (simp; done) | (simp [*]; done)), H', ⟨by have := HJ2.out; have := HK2.out; have := HK3.out; have := HK4.out; have := HK5.out; first | omega | exact Nat.le_refl _⟩, ⟨by (try simp only [hl6_3]); (try simp only [hl6_4]); (try simp only [hl6_5]); (with_reducible repeat (first | apply Kd.R_alloc | apply Kd.R_drewN | apply Kd.R_drew)); exact HO_6.out⟩, ⟨by (try simp only [hl6_3]); (try simp only [hl6_4]); (try simp only [hl6_5]); (with_reducible repeat (first | refine blk_drewN ?_ _ | refine blk_drew ?_ | refine blk_alloc ?_ _)); exact BK545.out⟩, ⟨by repeat (first | (with_reducible first | exact HB.out | apply below_alloc | apply pw_below_drewN | apply below_drew1 | refine below_set ?_ GE545.out) | exact HB.out)⟩⟩
                     ·
                      rw [if_neg c29] at H
                      exact absurd H (by simp)
                    ·
                     rw [if_neg c28] at H
                     have c28b0 : decide (x10_5 < ((rd_L2 l0_1 x9_4).length : Int)) = false := decide_eq_false c28
                     clear c28
                     have H' := Aside0.mk H
                     clear H
                     have hcz31_0 : wr.cell? ⟨gb545, 0, none⟩ = some (.slice A0_0 l0_0.length c0_0) := (blk_cell BK545.out 0).trans rfl
                     have hcz31_1 : wr.cell? ⟨gb545, 1, none⟩ = some (.slice A0_1 l0_1.length c0_1) := (blk_cell BK545.out 1).trans rfl
                     have hfz31_0 := blk_frozen BK545.out 0
                     have hfz31_1 := blk_frozen BK545.out 1
                     have p552 : 0 ≤ (x9_4 : Int) := of_decide_eq_true (by first | (with_reducible assumption) | assumption)
                     have q552 : x9_4 < (l0_1.length : Int) := of_decide_eq_true (by first | (with_reducible assumption) | assumption)
                     obtain ⟨ad552, A552_0, c552_0, e552, hx552_0, hl552_0, hi552_0⟩ := at_L2 HR0_1.out x9_4 p552 q552
                     cases e552
                     replace hx552_0 := (HB.out.cell (World.block_lt_of_cell? w _ hx552_0)).trans hx552_0
                     have HR552_0 := Aside0.mk hi552_0
                     have HC552_0 := Aside0.mk hl552_0
                     clear hi552_0 hl552_0
                     replace p552 := eq_true p552
                     replace q552 := eq_true q552
                     go_wp2
                     go_meet
                     case rel => exact ⟨_, (false), (by first | rfl | (simp; done) | (simp [*]; done)), H', ⟨by have := HJ2.out; have := HK2.out; have := HK3.out; have := HK4.out; have := HK5.out; first | omega | exact Nat.le_refl _⟩, ⟨by (try simp only [hl6_3]); (try simp only [hl6_4]); (try simp only [hl6_5]); (with_reducible repeat (first | apply Kd.R_alloc | apply Kd.R_drewN | apply Kd.R_drew)); exact HO_6.out⟩, ⟨by (try simp only [hl6_3]); (try simp only [hl6_4]); (try simp only [hl6_5]); (with_reducible repeat (first | refine blk_drewN ?_ _ | refine blk_drew ?_ | refine blk_alloc ?_ _)); exact BK545.out⟩, ⟨by repeat (first | (with_reducible first | exact HB.out | apply below_alloc | apply pw_below_drewN | apply below_drew1 | refine below_set ?_ GE545.out) | exact HB.out)⟩⟩
                   ·
                    rw [if_neg c27] at H
                    exact absurd H (by simp)
                  ·
                   rw [if_neg c26] at H
                   exact absurd H (by simp)
                 case rest =>
                  clear HC25
                  try clear c1
                  try clear c2
                  try clear p2
                  try clear q2
                  try clear hx2
                  try clear hf2
                  try clear c5
                  try clear p5
                  try clear q5
                  try clear hx5
                  try clear c6
                  try clear p6
                  try clear c7
                  try clear c12
                  try clear c13
                  try clear c15
                  try clear c15b0
                  try clear c16
                  try clear c18
                  try clear c18b0
                  try clear c19
                  try clear c19b0
                  try clear p20
                  try clear q20
                  try clear hx20
                  try clear hf20
                  try clear c23
                  try clear c23b0
                  try clear c24
                  try clear c24b0
                  try clear c26
                  try clear c26b0
                  try clear c27
                  try clear c27b0
                  try clear c28
                  try clear c28b0
                  try clear c29
                  try clear c29b0
                  try clear hcz10_0
                  try clear hcz10_1
                  try clear hcz11_0
                  try clear hcz11_1
                  try clear hcz14_0
                  try clear hcz14_1
                  try clear hcz30_0
                  try clear hcz30_1
                  try clear hcz31_0
                  try clear hcz31_1
                  try clear hcz8_0
                  try clear hcz8_1
                  try clear hfz10_0
                  try clear hfz10_1
                  try clear hfz11_0
                  try clear hfz11_1
                  try clear hfz14_0
                  try clear hfz14_1
                  try clear hfz30_0
                  try clear hfz30_1
                  try clear hfz31_0
                  try clear hfz31_1
                  try clear hfz8_0
                  try clear hfz8_1
                  try clear hx20_0
                  try clear hx552_0
                  try clear hx553_0
                  try clear p2
                  try clear p20
                  try clear p552
                  try clear p553
                  try clear p6
                  try clear q2
                  try clear q20
                  try clear q552
                  try clear q553
                  obtain ⟨kq, x61_24, rfl, HA, HJ24, HO_6, BK545, HB⟩ := hcut
                  cases kq with
                  | zero => exact absurd HA.out (by simp [selfstabref01_Distances.j5])
                  | succ kj24 =>
                   have H := HA.out
                   clear HA
                   simp only [selfstabref01_Distances.j5] at H
                   by_cases c32 : x61_24 = true
                   ·
                    subst c32
                    have H1 : (if 0 ≤ x9_4 then (if x9_4 < (l0_1.length : Int) then (if 0 ≤ x10_5 then (if x10_5 < ((rd_L2 l0_1 x9_4).length : Int) then (if 0 ≤ ((rd_T60 (rd_L2 l0_1 x9_4) x10_5).f0) then (if ((rd_T60 (rd_L2 l0_1 x9_4) x10_5).f0) < (x6_5.length : Int) then (if (rd x6_5 ((rd_T60 (rd_L2 l0_1 x9_4) x10_5).f0)) = (wrap64 (x8_3 - 1)) then (if x9_4 < (x6_5.length : Int) then (selfstabref01_Distances.l3 kj24 (l0_1.length : Int) (x6_5.set (x9_4 : Int).toNat x8_3) x8_3 x9_4 (wrap64 (x10_5 + 1)) l0_0 l0_1) else (none)) else (selfstabref01_Distances.l3 kj24 (l0_1.length : Int) x6_5 x8_3 x9_4 (wrap64 (x10_5 + 1)) l0_0 l0_1)) else (none)) else (none)) else (none)) else (none)) else (none)) else (none)) = some r := by rw [if_pos rfl] at H; exact H
                    clear H
                    have H := H1
                    clear H1
                    by_cases c33 : 0 ≤ x9_4
                    ·
                     rw [if_pos c33] at H
                     have c33b0 : decide (0 ≤ x9_4) = true := decide_eq_true c33
                     clear c33
                     by_cases c34 : x9_4 < (l0_1.length : Int)
                     ·
                      rw [if_pos c34] at H
                      have c34b0 : decide (x9_4 < (l0_1.length : Int)) = true := decide_eq_true c34
                      clear c34
                      by_cases c35 : 0 ≤ x10_5
                      ·
                       rw [if_pos c35] at H
                       have c35b0 : decide (0 ≤ x10_5) = true := decide_eq_true c35
                       clear c35
                       by_cases c36 : x10_5 < ((rd_L2 l0_1 x9_4).length : Int)
                       ·
                        rw [if_pos c36] at H
                        have c36b0 : decide (x10_5 < ((rd_L2 l0_1 x9_4).length : Int)) = true := decide_eq_true c36
                        clear c36
                        by_cases c37 : 0 ≤ ((rd_T60 (rd_L2 l0_1 x9_4) x10_5).f0)
                        ·
                         rw [if_pos c37] at H
                         have c37b0 : decide (0 ≤ ((rd_T60 (rd_L2 l0_1 x9_4) x10_5).f0)) = true := decide_eq_true c37
                         clear c37
                         by_cases c38 : ((rd_T60 (rd_L2 l0_1 x9_4) x10_5).f0) < (x6_5.length : Int)
                         ·
                          rw [if_pos c38] at H
                          have c38b0 : decide (((rd_T60 (rd_L2 l0_1 x9_4) x10_5).f0) < (x6_5.length : Int)) = true := decide_eq_true c38
                          clear c38
                          by_cases c39 : (rd x6_5 ((rd_T60 (rd_L2 l0_1 x9_4) x10_5).f0)) = (wrap64 (x8_3 - 1))
                          ·
                           rw [if_pos c39] at H
                           have c39b0 : ((rd x6_5 ((rd_T60 (rd_L2 l0_1 x9_4) x10_5).f0)) == (wrap64 (x8_3 - 1))) = true := beq_iff_eq.mpr c39
                           have c39b1 : ((rd x6_5 ((rd_T60 (rd_L2 l0_1 x9_4) x10_5).f0)) != (wrap64 (x8_3 - 1))) = false := bne_eq_false_iff_eq.mpr c39
                           clear c39
                           by_cases c40 : x9_4 < (x6_5.length : Int)
                           ·
                            rw [if_pos c40] at H
                            have c40b0 : decide (x9_4 < (x6_5.length : Int)) = true := decide_eq_true c40
                            clear c40
                            obtain ⟨y557, hy557⟩ : ∃ y_ : List Int, y_ = (x6_5.set (x9_4 : Int).toNat x8_3) := ⟨_, rfl⟩
                            replace H : (selfstabref01_Distances.l3 kj24 (l0_1.length : Int) y557 x8_3 x9_4 (wrap64 (x10_5 + 1)) l0_0 l0_1) = some r := by first | (rw [hy557]; with_reducible exact H) | (have H2_ := (Option.bind_some _ _).symm.trans H; rw [hy557]; with_reducible exact H2_) | (have H2_ := (Option.bind_some _ _).symm.trans H; with_reducible exact H2_) | with_reducible exact H | (rw [hy557]; exact H) | exact H
                            have Ny557 := Aside0.mk hy557
                            clear hy557
                            have H' := Aside0.mk H
                            clear H
                            have hcz42_0 : wc.cell? ⟨gb545, 0, none⟩ = some (.slice A0_0 l0_0.length c0_0) := (blk_cell BK545.out 0).trans rfl
                            have hcz42_1 : wc.cell? ⟨gb545, 1, none⟩ = some (.slice A0_1 l0_1.length c0_1) := (blk_cell BK545.out 1).trans rfl
                            have hfz42_0 := blk_frozen BK545.out 0
                            have hfz42_1 := blk_frozen BK545.out 1
                            have p554 : 0 ≤ (x9_4 : Int) := of_decide_eq_true (by first | (with_reducible assumption) | assumption)
                            have q554 : x9_4 < (l0_1.length : Int) := of_decide_eq_true (by first | (with_reducible assumption) | assumption)
                            obtain ⟨ad554, A554_0, c554_0, e554, hx554_0, hl554_0, hi554_0⟩ := at_L2 HR0_1.out x9_4 p554 q554
                            cases e554
                            replace hx554_0 := (HB.out.cell (World.block_lt_of_cell? w _ hx554_0)).trans hx554_0
                            have HR554_0 := Aside0.mk hi554_0
                            have HC554_0 := Aside0.mk hl554_0
                            clear hi554_0 hl554_0
                            replace p554 := eq_true p554
                            replace q554 := eq_true q554
                            have p555 : 0 ≤ (x10_5 : Int) := of_decide_eq_true (by first | (with_reducible assumption) | assumption)
                            have q555 : x10_5 < ((rd_L2 l0_1 x9_4).length : Int) := of_decide_eq_true (by first | (with_reducible assumption) | assumption)
                            obtain ⟨ad555, e555, hx555_0, hx555_1⟩ := at_T60 HR554_0.out x10_5 p555 q555
                            cases e555
                            replace hx555_0 := (HB.out.cell (World.block_lt_of_cell? w _ hx555_0)).trans hx555_0
                            replace hx555_1 := (HB.out.cell (World.block_lt_of_cell? w _ hx555_1)).trans hx555_1
                            replace p555 := eq_true p555
                            replace q555 := eq_true q555
                            have p556 : 0 ≤ (((rd_T60 (rd_L2 l0_1 x9_4) x10_5).f0) : Int) := of_decide_eq_true (by first | (with_reducible assumption) | assumption)
                            have q556 : ((rd_T60 (rd_L2 l0_1 x9_4) x10_5).f0) < (x6_5.length : Int) := of_decide_eq_true (by first | (with_reducible assumption) | assumption)
                            obtain ⟨ad556, e556, hx556_0⟩ := Kd.at_int (Kd.R_reads' HO_6.out).2.2 ((rd_T60 (rd_L2 l0_1 x9_4) x10_5).f0) p556 q556
                            obtain rfl : (⟨go20, 0, none⟩ : Addr) = ad556 := (by injection e556)
                            (first | simp only [add_plain] at hx556_0 | simp only [add_at] at hx556_0 | simp only [Addr.add, Nat.zero_add] at hx556_0 | skip)
                            replace p556 := eq_true p556
                            replace q556 := eq_true q556
                            have p41 : 0 ≤ (x9_4 : Int) := of_decide_eq_true (by first | (with_reducible assumption) | assumption)
                            have q41 : (x9_4 : Int) < ((x6_5.length : Int) : Int) := of_decide_eq_true (by first | (with_reducible assumption) | assumption)
                            obtain ⟨hx41_0, hf41_0⟩ := Kd.R_celln 0 HO_6.out (x9_4 : Int) p41 q41
                            replace p41 := eq_true p41
                            replace q41 := eq_true q41
                            have HP43 := Kd.R_putg HO_6.out (x9_4 : Int) x8_3
                            go_wp2_with (first | ((with_reducible refine gate_store (t := 3) (p := 82) rfl ?_); refine store_event (t := 3) (p := 82) (v := ?vo_w44) (w1 := (wc.setCell ⟨go20, (x9_4 : Int).toNat, none⟩ (.int .i64 x8_3))) ?hg ?ho ?hn ?hr ?_; (case ho => rfl); (case hg => rfl); (case hn => rfl); (case hr => first | (go_simp; done) | (go_simp; rfl)); intro w44 hw; have hg : wc.grownBy w44 (some go20) := (by rw [hw]; exact HP43.2); have hp_ : Kd.R (Kd.int .i64) 3 w44 w.heap.size (fun _ => True) (.slice (some ⟨go20, 0, none⟩) x6_5.length co20) y557 := (by rw [hw, Ny557.out]; exact HP43.1); clear HP43; have n0_ := Aside0.mk (hp_); have n1_ := Aside0.mk (blk_grown (g := gb545) (o := .cells #[.slice A0_0 l0_0.length c0_0, .slice (some ad554) l0_1.length c0_1] 27 (0, 0)) (by (with_reducible repeat (first | refine blk_drewN ?_ _ | refine blk_drew ?_ | refine blk_alloc ?_ _)); exact BK545.out) hg (Kd.R_ne HO_6.out BK545.out (by decide))); have n2_ := Aside0.mk ((by rw [hw]; exact below_set (HB.out) GB20.out : Below w.heap.size w w44)); clear HO_6; clear BK545; clear HB; have HO_6 := n0_; have BK545 := n1_; have HB := n2_; clear n0_ n1_ n2_; clear hg hw hp_))
                            (try simp only [← hl6_5])
                            go_roundg kj24
                            case measure => have := HJ2.out; have := HK2.out; have := HK3.out; have := HK4.out; have := HK5.out; have := HJ24.out; omega
                            case rel => exact ⟨(y557), (wrap64 (x10_5 + 1)), (by first | rfl | (simp; done) | (simp [*]; done)), H', ⟨by have := HJ2.out; have := HK2.out; have := HK3.out; have := HK4.out; have := HK5.out; have := HJ24.out; omega⟩, ⟨by (try simp only [hl6_3]); (try simp only [hl6_4]); (try simp only [hl6_5]); (with_reducible repeat (first | apply Kd.R_alloc | apply Kd.R_drewN | apply Kd.R_drew)); exact HO_6.out⟩, ⟨by (try simp only [hl6_3]); (try simp only [hl6_4]); (try simp only [hl6_5]); (with_reducible repeat (first | refine blk_drewN ?_ _ | refine blk_drew ?_ | refine blk_alloc ?_ _)); exact BK545.out⟩, ⟨by repeat (first | (with_reducible first | exact HB.out | apply below_alloc | apply pw_below_drewN | apply below_drew1 | refine below_set ?_ GE545.out) | exact HB.out)⟩⟩
                           ·
                            rw [if_neg c40] at H
                            exact absurd H (by simp)
                          ·
                           rw [if_neg c39] at H
                           have c39b0 : ((rd x6_5 ((rd_T60 (rd_L2 l0_1 x9_4) x10_5).f0)) == (wrap64 (x8_3 - 1))) = false := beq_eq_false_iff_ne.mpr c39
                           have c39b1 : ((rd x6_5 ((rd_T60 (rd_L2 l0_1 x9_4) x10_5).f0)) != (wrap64 (x8_3 - 1))) = true := bne_iff_ne.mpr c39
                           have H' := Aside0.mk H
                           clear H
                           have hcz45_0 : wc.cell? ⟨gb545, 0, none⟩ = some (.slice A0_0 l0_0.length c0_0) := (blk_cell BK545.out 0).trans rfl
                           have hcz45_1 : wc.cell? ⟨gb545, 1, none⟩ = some (.slice A0_1 l0_1.length c0_1) := (blk_cell BK545.out 1).trans rfl
                           have hfz45_0 := blk_frozen BK545.out 0
                           have hfz45_1 := blk_frozen BK545.out 1
                           have p554 : 0 ≤ (x9_4 : Int) := of_decide_eq_true (by first | (with_reducible assumption) | assumption)
                           have q554 : x9_4 < (l0_1.length : Int) := of_decide_eq_true (by first | (with_reducible assumption) | assumption)
                           obtain ⟨ad554, A554_0, c554_0, e554, hx554_0, hl554_0, hi554_0⟩ := at_L2 HR0_1.out x9_4 p554 q554
                           cases e554
                           replace hx554_0 := (HB.out.cell (World.block_lt_of_cell? w _ hx554_0)).trans hx554_0
                           have HR554_0 := Aside0.mk hi554_0
                           have HC554_0 := Aside0.mk hl554_0
                           clear hi554_0 hl554_0
                           replace p554 := eq_true p554
                           replace q554 := eq_true q554
                           have p555 : 0 ≤ (x10_5 : Int) := of_decide_eq_true (by first | (with_reducible assumption) | assumption)
                           have q555 : x10_5 < ((rd_L2 l0_1 x9_4).length : Int) := of_decide_eq_true (by first | (with_reducible assumption) | assumption)
                           obtain ⟨ad555, e555, hx555_0, hx555_1⟩ := at_T60 HR554_0.out x10_5 p555 q555
                           cases e555
                           replace hx555_0 := (HB.out.cell (World.block_lt_of_cell? w _ hx555_0)).trans hx555_0
                           replace hx555_1 := (HB.out.cell (World.block_lt_of_cell? w _ hx555_1)).trans hx555_1
                           replace p555 := eq_true p555
                           replace q555 := eq_true q555
                           have p556 : 0 ≤ (((rd_T60 (rd_L2 l0_1 x9_4) x10_5).f0) : Int) := of_decide_eq_true (by first | (with_reducible assumption) | assumption)
                           have q556 : ((rd_T60 (rd_L2 l0_1 x9_4) x10_5).f0) < (x6_5.length : Int) := of_decide_eq_true (by first | (with_reducible assumption) | assumption)
                           obtain ⟨ad556, e556, hx556_0⟩ := Kd.at_int (Kd.R_reads' HO_6.out).2.2 ((rd_T60 (rd_L2 l0_1 x9_4) x10_5).f0) p556 q556
                           obtain rfl : (⟨go20, 0, none⟩ : Addr) = ad556 := (by injection e556)
                           (first | simp only [add_plain] at hx556_0 | simp only [add_at] at hx556_0 | simp only [Addr.add, Nat.zero_add] at hx556_0 | skip)
                           replace p556 := eq_true p556
                           replace q556 := eq_true q556
                           go_wp2
                           (try simp only [← hl6_5])
                           go_roundg kj24
                           case measure => have := HJ2.out; have := HK2.out; have := HK3.out; have := HK4.out; have := HK5.out; have := HJ24.out; omega
                           case rel => exact ⟨(x6_5), (wrap64 (x10_5 + 1)), (by first | rfl | (simp; done) | (simp [*]; done)), H', ⟨by have := HJ2.out; have := HK2.out; have := HK3.out; have := HK4.out; have := HK5.out; have := HJ24.out; omega⟩, ⟨by (try simp only [hl6_3]); (try simp only [hl6_4]); (try simp only [hl6_5]); (with_reducible repeat (first | apply Kd.R_alloc | apply Kd.R_drewN | apply Kd.R_drew)); exact HO_6.out⟩, ⟨by (try simp only [hl6_3]); (try simp only [hl6_4]); (try simp only [hl6_5]); (with_reducible repeat (first | refine blk_drewN ?_ _ | refine blk_drew ?_ | refine blk_alloc ?_ _)); exact BK545.out⟩, ⟨by repeat (first | (with_reducible first | exact HB.out | apply below_alloc | apply pw_below_drewN | apply below_drew1 | refine below_set ?_ GE545.out) | exact HB.out)⟩⟩
                         ·
                          rw [if_neg c38] at H
                          exact absurd H (by simp)
                        ·
                         rw [if_neg c37] at H
                         exact absurd H (by simp)
                       ·
                        rw [if_neg c36] at H
                        exact absurd H (by simp)
                      ·
                       rw [if_neg c35] at H
                       exact absurd H (by simp)
                     ·
                      rw [if_neg c34] at H
                      exact absurd H (by simp)
                    ·
                     rw [if_neg c33] at H
                     exact absurd H (by simp)
                   ·
                    replace c32 := Bool.eq_false_iff.mpr c32
                    subst c32
                    have H1 : (selfstabref01_Distances.l2 kj24 (l0_1.length : Int) x6_5 x8_3 (wrap64 (x9_4 + 1)) l0_0 l0_1) = some r := by rw [if_neg (show ¬ (false = true) by decide)] at H; exact H
                    clear H
                    have H := H1
                    clear H1
                    have H' := Aside0.mk H
                    clear H
                    go_wp2
                    (try simp only [← hl6_4, ← hl6_5])
                    go_roundg kj24
                    case measure => have := HJ2.out; have := HK2.out; have := HK3.out; have := HK4.out; have := HK5.out; have := HJ24.out; omega
                    case rel => exact ⟨(x6_5), (wrap64 (x9_4 + 1)), (by first | rfl | (simp; done) | (simp [*]; done)), H', ⟨by have := HJ2.out; have := HK2.out; have := HK3.out; have := HK4.out; have := HK5.out; have := HJ24.out; omega⟩, ⟨by (try simp only [hl6_3]); (try simp only [hl6_4]); (try simp only [hl6_5]); (with_reducible repeat (first | apply Kd.R_alloc | apply Kd.R_drewN | apply Kd.R_drew)); exact HO_6.out⟩, ⟨by (try simp only [hl6_3]); (try simp only [hl6_4]); (try simp only [hl6_5]); (with_reducible repeat (first | refine blk_drewN ?_ _ | refine blk_drew ?_ | refine blk_alloc ?_ _)); exact BK545.out⟩, ⟨by repeat (first | (with_reducible first | exact HB.out | apply below_alloc | apply pw_below_drewN | apply below_drew1 | refine below_set ?_ GE545.out) | exact HB.out)⟩⟩
              ·
               rw [if_neg c24] at H
               have c24b0 : decide (x9_4 < (l0_1.length : Int)) = false := decide_eq_false c24
               clear c24
               have H' := Aside0.mk H
               clear H
               go_wp2
               (try simp only [← hl6_3, ← hl6_4])
               go_roundg k4
               case measure => have := HJ2.out; have := HK2.out; have := HK3.out; have := HK4.out; omega
               case rel => exact ⟨(x6_4), (wrap64 (x8_3 + 1)), (by first | rfl | (simp; done) | (simp [*]; done)), H', ⟨by have := HJ2.out; have := HK2.out; have := HK3.out; have := HK4.out; omega⟩, ⟨by (try simp only [hl6_3]); (try simp only [hl6_4]); (with_reducible repeat (first | apply Kd.R_alloc | apply Kd.R_drewN | apply Kd.R_drew)); exact HO_6.out⟩, ⟨by (try simp only [hl6_3]); (try simp only [hl6_4]); (with_reducible repeat (first | refine blk_drewN ?_ _ | refine blk_drew ?_ | refine blk_alloc ?_ _)); exact BK545.out⟩, ⟨by repeat (first | (with_reducible first | exact HB.out | apply below_alloc | apply pw_below_drewN | apply below_drew1 | refine below_set ?_ GE545.out) | exact HB.out)⟩⟩
           ·
            rw [if_neg c23] at H
            have c23b0 : decide (x8_3 < (l0_1.length : Int)) = false := decide_eq_false c23
            clear c23
            obtain rfl := Option.some.inj H
            go_wp2
            go_ret
            exact ⟨_, by first | rfl | (simp [errW_none, errW_some] <;> rfl) | (simp [*, errW_none, errW_some] <;> rfl), by (with_reducible repeat (first | apply Kd.R_alloc | apply Kd.R_drewN | apply Kd.R_drew)); exact HO_6.out, by repeat (first | (with_reducible first | exact HB.out | apply below_alloc | apply pw_below_drewN | apply below_drew1 | refine below_set ?_ GE545.out) | exact HB.out)⟩
        ·
         rw [if_neg c19] at H
         exact absurd H (by simp)
       ·
        rw [if_neg c18] at H
        exact absurd H (by simp)
end Go.Proofs.YthapikakneikbaaG
/-
  Plain laws on distances: sets of nodes that are reached link by link, and what the printed functions compute of them.
-/
namespace Go.Proofs.YthapikakneikbaaG
open Go.RowKit Go.Proofs.YthapikakneikbaaW.PrintWords
open Go.Proofs.Ythapikakneikbaa (bitsOf bitsOf_lt bitsOf_small testBit_bitsOf bitsOf_congr bitsOf_zero aroundB)
/-! ### lists by their places -/
/-! ### the sets -/
section
variable {p : List (List S60)} {a : Nat}
end
/-! ### the service's loops -/
section
variable {ids : List Int} {p : List (List S60)} {a : Nat}
/-! ### the reference's loops -/
end
end Go.Proofs.YthapikakneikbaaG
namespace Go.Proofs.YthapikakneikbaaG
open Go.RowKit Go.Proofs.YthapikakneikbaaW.PrintWords Go.Proofs.YthapikakneikbaaW.PrintLast Go.Proofs.YthapikakneikbaaW.PrintMore
attribute [local go_sem] max2_int min2_int max_two min_two max_three min_three max_four min_four   -- for this text's walks alone
set_option linter.unusedVariables false
set_option linter.unusedSimpArgs false
theorem eqA44 (d : Nat) (w : World) (x0 y0 : Int) (x1 y1 : Bool) (x2 y2 : Bool) (x3 y3 : Int) (x4 y4 : Int) :
  (Op.equalIn (d + 2) 44 (.agg #[.int .i64 x0, .bool x1, .bool x2, .int .i64 x3, .int .i64 x4]) (.agg #[.int .i64 y0, .bool y1, .bool y2, .int .i64 y3, .int .i64 y4])).run Try.prog w = .ok (x0 == y0 && (x1 == y1 && (x2 == y2 && (x3 == y3 && (x4 == y4))))) w := by
 refine eqA_of Try.underlying44 (by kernel_rfl) ?_
 refine eqf_cons (by rfl) (by go_simp; rfl) (by go_simp; rfl) (by go_simp) ?_
 refine eqf_cons (by rfl) (by go_simp; rfl) (by go_simp; rfl) (by go_simp) ?_
 refine eqf_cons (by rfl) (by go_simp; rfl) (by go_simp; rfl) (by go_simp) ?_
 refine eqf_cons (by rfl) (by go_simp; rfl) (by go_simp; rfl) (by go_simp) ?_
 exact eqf_last (by rfl) (by go_simp; rfl) (by go_simp; rfl) (by go_simp)
end Go.Proofs.YthapikakneikbaaG
namespace Go.Proofs.YthapikakneikbaaG
open Go.RowKit Go.Proofs.YthapikakneikbaaW.PrintWords Go.Proofs.YthapikakneikbaaW.PrintLast Go.Proofs.YthapikakneikbaaW.PrintMore
attribute [local go_sem] max2_int min2_int max_two min_two max_three min_three max_four min_four   -- for this text's walks alone
set_option linter.unusedVariables false
set_option linter.unusedSimpArgs false
/-! ### selfstablaw29_large: function 19 -/
def selfstablaw29_large.f (l0_0 : List Int) (l0_1 : List (List (S60))) (l1 : List (List Int)) : Option (Bool) := if (l0_1.length : Int) > 60 then (some true) else (if (l0_0.length : Int) > 60 then (some true) else (some (decide ((l1.length : Int) > 60))))
set_option maxHeartbeats 8000000 in
set_option maxRecDepth 100000 in
theorem selfstablaw29_large.calls (A0_0 : Option Addr) (c0_0 : Nat) (l0_0 : List Int) (A0_1 : Option Addr) (c0_1 : Nat) (l0_1 : List (List (S60))) (A1 : Option Addr) (c1 : Nat) (l1 : List (List Int)) (r : Bool) (w : World) (hr0_0 : Kd.C (Kd.int .i64) w A0_0 l0_0.length l0_0) (hc0_0 : l0_0.length ≤ c0_0) (hr0_1 : Kd.C (Kd.slice 60 k60) w A0_1 l0_1.length l0_1) (hc0_1 : l0_1.length ≤ c0_1) (hr1 : Kd.C (Kd.slice 3 (Kd.int .i64)) w A1 l1.length l1) (hc1 : l1.length ≤ c1) (h : selfstablaw29_large.f l0_0 l0_1 l1 = some r) :
  Calls Try.prog 19 #[.agg #[.slice A0_0 l0_0.length c0_0, .slice A0_1 l0_1.length c0_1], .slice A1 l1.length c1] w fun e w' => e = .returned (.bool r) ∧ Below w.heap.size w w' := by
 have hu27 := Try.underlying27
 have HR0_0 := Aside0.mk hr0_0
 have HC0_0 := Aside0.mk hc0_0
 clear hr0_0 hc0_0
 have HR0_1 := Aside0.mk hr0_1
 have HC0_1 := Aside0.mk hc0_1
 clear hr0_1 hc0_1
 have HR1 := Aside0.mk hr1
 have HC1 := Aside0.mk hc1
 clear hr1 hc1
 have HB := Aside0.mk (Below.refl w.heap.size w)
 have H : (if (l0_1.length : Int) > 60 then (some true) else (if (l0_0.length : Int) > 60 then (some true) else (some (decide ((l1.length : Int) > 60))))) = some r := h
 clear h
 by_cases c3 : (l0_1.length : Int) > 60
 ·
  rw [if_pos c3] at H
  have c3b0 : decide (60 < (l0_1.length : Int)) = true := decide_eq_true c3
  have c3b1 : decide (60 < l0_1.length) = true := decide_eq_true (by omega)
  clear c3
  obtain rfl := Option.some.inj H
  go_enter Try.func19, Try.ntmps19
  go_wp2_with (first | ((with_reducible refine gate_dst (N := 2) rfl ?_); (try (refine gate_guard (by rfl) ?_; dsimp only)); refine box_event ?hg (N := 2) ?hd (cs := #[.slice A0_0 l0_0.length c0_0, .slice A0_1 l0_1.length c0_1]) (t := 27) ?hr ?_; (case hd => rfl); (case hg => rfl); (case hr => first | (go_simp; done) | (go_simp; rfl)); intro gb101 hg w4 hbox hb; have n0_ := Aside0.mk (below_step (by repeat (first | (with_reducible first | exact HB.out | apply below_alloc | apply pw_below_drewN | apply below_drew1) | exact HB.out)) hb); have n1_ := Aside0.mk (hbox); have n2_ := Aside0.mk ((by rw [hg]; exact (below_size (by repeat (first | (with_reducible first | exact HB.out | apply below_alloc | apply pw_below_drewN | apply below_drew1) | exact HB.out))) : w.heap.size ≤ gb101)); have n3_ := Aside0.mk ((by rw [hg]; exact (below_size (by repeat (first | (with_reducible first | exact HB.out | apply below_alloc | apply pw_below_drewN | apply below_drew1) | exact HB.out))) : w.heap.size ≤ gb101)); clear HB; have HB := n0_; have BK101 := n1_; have GW101 := n2_; have GE101 := n3_; clear n0_ n1_ n2_ n3_; clear hb hbox hg; have hcz5_0 : w4.cell? ⟨gb101, 0, none⟩ = some (.slice A0_0 l0_0.length c0_0) := (blk_cell BK101.out 0).trans rfl; have hcz5_1 : w4.cell? ⟨gb101, 1, none⟩ = some (.slice A0_1 l0_1.length c0_1) := (blk_cell BK101.out 1).trans rfl; have hfz5_0 := blk_frozen BK101.out 0; have hfz5_1 := blk_frozen BK101.out 1))
  go_ret
  exact ⟨by first | rfl | (simp [errW_none, errW_some] <;> rfl) | (simp [*, errW_none, errW_some] <;> rfl), by repeat (first | (with_reducible first | exact HB.out | apply below_alloc | apply pw_below_drewN | apply below_drew1 | refine below_set ?_ GE101.out) | exact HB.out)⟩
 ·
  rw [if_neg c3] at H
  have c3b0 : decide (60 < (l0_1.length : Int)) = false := decide_eq_false c3
  have c3b1 : decide (60 < l0_1.length) = false := decide_eq_false (by omega)
  clear c3
  by_cases c6 : (l0_0.length : Int) > 60
  ·
   rw [if_pos c6] at H
   have c6b0 : decide (60 < (l0_0.length : Int)) = true := decide_eq_true c6
   have c6b1 : decide (60 < l0_0.length) = true := decide_eq_true (by omega)
   clear c6
   obtain rfl := Option.some.inj H
   go_enter Try.func19, Try.ntmps19
   go_wp2_with (first | ((with_reducible refine gate_dst (N := 2) rfl ?_); (try (refine gate_guard (by rfl) ?_; dsimp only)); refine box_event ?hg (N := 2) ?hd (cs := #[.slice A0_0 l0_0.length c0_0, .slice A0_1 l0_1.length c0_1]) (t := 27) ?hr ?_; (case hd => rfl); (case hg => rfl); (case hr => first | (go_simp; done) | (go_simp; rfl)); intro gb101 hg w7 hbox hb; have n0_ := Aside0.mk (below_step (by repeat (first | (with_reducible first | exact HB.out | apply below_alloc | apply pw_below_drewN | apply below_drew1) | exact HB.out)) hb); have n1_ := Aside0.mk (hbox); have n2_ := Aside0.mk ((by rw [hg]; exact (below_size (by repeat (first | (with_reducible first | exact HB.out | apply below_alloc | apply pw_below_drewN | apply below_drew1) | exact HB.out))) : w.heap.size ≤ gb101)); have n3_ := Aside0.mk ((by rw [hg]; exact (below_size (by repeat (first | (with_reducible first | exact HB.out | apply below_alloc | apply pw_below_drewN | apply below_drew1) | exact HB.out))) : w.heap.size ≤ gb101)); clear HB; have HB := n0_; have BK101 := n1_; have GW101 := n2_; have GE101 := n3_; clear n0_ n1_ n2_ n3_; clear hb hbox hg; have hcz8_0 : w7.cell? ⟨gb101, 0, none⟩ = some (.slice A0_0 l0_0.length c0_0) := (blk_cell BK101.out 0).trans rfl; have hcz8_1 : w7.cell? ⟨gb101, 1, none⟩ = some (.slice A0_1 l0_1.length c0_1) := (blk_cell BK101.out 1).trans rfl; have hfz8_0 := blk_frozen BK101.out 0; have hfz8_1 := blk_frozen BK101.out 1))
   go_ret
   exact ⟨by first | rfl | (simp [errW_none, errW_some] <;> rfl) | (simp [*, errW_none, errW_some] <;> rfl), by repeat (first | (with_reducible first | exact HB.out | apply below_alloc | apply pw_below_drewN | apply below_drew1 | refine below_set ?_ GE101.out) | exact HB.out)⟩
  ·
   rw [if_neg c6] at H
   have c6b0 : decide (60 < (l0_0.length : Int)) = false := decide_eq_false c6
   have c6b1 : decide (60 < l0_0.length) = false := decide_eq_false (by omega)
   clear c6
   obtain rfl := Option.some.inj H
   go_enter Try.func19, Try.ntmps19
   go_wp2_with (first | ((with_reducible refine gate_dst (N := 2) rfl ?_); (try (refine gate_guard (by rfl) ?_; dsimp only)); refine box_event ?hg (N := 2) ?hd (cs := #[.slice A0_0 l0_0.length c0_0, .slice A0_1 l0_1.length c0_1]) (t := 27) ?hr ?_; (case hd => rfl); (case hg => rfl); (case hr => first | (go_simp; done) | (go_simp; rfl)); intro gb101 hg w9 hbox hb; have n0_ := Aside0.mk (below_step (by repeat (first | (with_reducible first | exact HB.out | apply below_alloc | apply pw_below_drewN | apply below_drew1) | exact HB.out)) hb); have n1_ := Aside0.mk (hbox); have n2_ := Aside0.mk ((by rw [hg]; exact (below_size (by repeat (first | (with_reducible first | exact HB.out | apply below_alloc | apply pw_below_drewN | apply below_drew1) | exact HB.out))) : w.heap.size ≤ gb101)); have n3_ := Aside0.mk ((by rw [hg]; exact (below_size (by repeat (first | (with_reducible first | exact HB.out | apply below_alloc | apply pw_below_drewN | apply below_drew1) | exact HB.out))) : w.heap.size ≤ gb101)); clear HB; have HB := n0_; have BK101 := n1_; have GW101 := n2_; have GE101 := n3_; clear n0_ n1_ n2_ n3_; clear hb hbox hg; have hcz10_0 : w9.cell? ⟨gb101, 0, none⟩ = some (.slice A0_0 l0_0.length c0_0) := (blk_cell BK101.out 0).trans rfl; have hcz10_1 : w9.cell? ⟨gb101, 1, none⟩ = some (.slice A0_1 l0_1.length c0_1) := (blk_cell BK101.out 1).trans rfl; have hfz10_0 := blk_frozen BK101.out 0; have hfz10_1 := blk_frozen BK101.out 1))
   go_ret
   exact ⟨by first | rfl | (simp [errW_none, errW_some] <;> rfl) | (simp [*, errW_none, errW_some] <;> rfl), by repeat (first | (with_reducible first | exact HB.out | apply below_alloc | apply pw_below_drewN | apply below_drew1 | refine below_set ?_ GE101.out) | exact HB.out)⟩
end Go.Proofs.YthapikakneikbaaG
namespace Go.Proofs.YthapikakneikbaaG
open Go.RowKit Go.Proofs.YthapikakneikbaaW.PrintWords Go.Proofs.YthapikakneikbaaW.PrintLast Go.Proofs.YthapikakneikbaaW.PrintMore
attribute [local go_sem] max2_int min2_int max_two min_two max_three min_three max_four min_four   -- for this text's walks alone
set_option linter.unusedVariables false
set_option linter.unusedSimpArgs false
/-! ### ring_Fit: function 21 -/
mutual
def ring_Fit.j0 : Nat → Int → Bool → List Int → List (List (S60)) → Option (Bool)
 | 0, _, _, _, _ => none
 | k + 1, x3, x15, x103000, x103001 => if x15 = true then (some false) else (ring_Fit.l0 k x3 x3 0 x103000 x103001)
def ring_Fit.l0 : Nat → Int → Int → Int → List Int → List (List (S60)) → Option (Bool)
 | 0, _, _, _, _, _ => none
 | k + 1, x3, x16, x17, x103000, x103001 => if x17 < x16 then (if 0 ≤ x17 then (if x17 < (x103001.length : Int) then (if ((rd_L2 x103001 x17).length : Int) = 2 then (if 0 < ((rd_L2 x103001 x17).length : Int) then (if x3 = 0 then (none) else (if ((rd_T60 (rd_L2 x103001 x17) 0).f0) = (Int.tmod (wrap64 ((wrap64 (x17 + x3)) - 1)) x3) then (if 1 < ((rd_L2 x103001 x17).length : Int) then (if ((rd_T60 (rd_L2 x103001 x17) 1).f0) = (Int.tmod (wrap64 (x17 + 1)) x3) then (ring_Fit.l0 k x3 x16 (wrap64 (x17 + 1)) x103000 x103001) else (some false)) else (none)) else (some false))) else (none)) else (some false)) else (none)) else (none)) else (some true)
end
def ring_Fit.f (k : Nat) (l0_0 : List Int) (l0_1 : List (List (S60))) : Option (Bool) := if (l0_1.length : Int) < 3 then (ring_Fit.j0 k (l0_1.length : Int) true l0_0 l0_1) else ((graph_Valid.f l0_0 l0_1).bind fun t103 => (ring_Fit.j0 k (l0_1.length : Int) (!t103) l0_0 l0_1))
theorem ring_Fit.mono_l : ∀ k, (∀ y0 y1 y2 y3, LeO (ring_Fit.j0 k y0 y1 y2 y3) (ring_Fit.j0 (k + 1) y0 y1 y2 y3)) ∧ (∀ y0 y1 y2 y3 y4, LeO (ring_Fit.l0 k y0 y1 y2 y3 y4) (ring_Fit.l0 (k + 1) y0 y1 y2 y3 y4))
 | 0 => ⟨fun _ _ _ _ r h => by simp [ring_Fit.j0] at h, fun _ _ _ _ _ r h => by simp [ring_Fit.l0] at h⟩
 | k + 1 => by
  obtain ⟨ih0, ih1⟩ := ring_Fit.mono_l k
  refine ⟨?_, ?_⟩
  ·
   intro y0 y1 y2 y3
   unfold ring_Fit.j0
   repeat' first
   | (with_reducible exact ih0 _ _ _ _)
   | (with_reducible exact ih1 _ _ _ _ _)
   | (with_reducible exact LeO.refl _)
   | (with_reducible exact LeO.none _)
   | (with_reducible refine LeO.ite ?_ ?_)
   | (with_reducible refine LeO.bind ?_ (fun _ => ?_))
   | exact ih0 _ _ _ _
   | exact ih1 _ _ _ _ _
   | exact LeO.none _
   | refine LeO.ite ?_ ?_
   | refine LeO.bind ?_ (fun _ => ?_)
  ·
   intro y0 y1 y2 y3 y4
   unfold ring_Fit.l0
   repeat' first
   | (with_reducible exact ih0 _ _ _ _)
   | (with_reducible exact ih1 _ _ _ _ _)
   | (with_reducible exact LeO.refl _)
   | (with_reducible exact LeO.none _)
   | (with_reducible refine LeO.ite ?_ ?_)
   | (with_reducible refine LeO.bind ?_ (fun _ => ?_))
   | exact ih0 _ _ _ _
   | exact ih1 _ _ _ _ _
   | exact LeO.none _
   | refine LeO.ite ?_ ?_
   | refine LeO.bind ?_ (fun _ => ?_)
theorem ring_Fit.mono : ∀ a0 a1 k, LeO (ring_Fit.f k a0 a1) (ring_Fit.f (k + 1) a0 a1) := by
 intro a0 a1 k
 obtain ⟨ih0, ih1⟩ := ring_Fit.mono_l k
 unfold ring_Fit.f
 repeat' first
   | (with_reducible exact ih0 _ _ _ _)
   | (with_reducible exact ih1 _ _ _ _ _)
   | (with_reducible exact LeO.refl _)
   | (with_reducible exact LeO.none _)
   | (with_reducible refine LeO.ite ?_ ?_)
   | (with_reducible refine LeO.bind ?_ (fun _ => ?_))
   | exact ih0 _ _ _ _
   | exact ih1 _ _ _ _ _
   | exact LeO.none _
   | refine LeO.ite ?_ ?_
   | refine LeO.bind ?_ (fun _ => ?_)
set_option maxHeartbeats 8000000 in
set_option maxRecDepth 100000 in
theorem ring_Fit.calls (k : Nat) (A0_0 : Option Addr) (c0_0 : Nat) (l0_0 : List Int) (A0_1 : Option Addr) (c0_1 : Nat) (l0_1 : List (List (S60))) (r : Bool) (w : World) (hr0_0 : Kd.C (Kd.int .i64) w A0_0 l0_0.length l0_0) (hc0_0 : l0_0.length ≤ c0_0) (hr0_1 : Kd.C (Kd.slice 60 k60) w A0_1 l0_1.length l0_1) (hc0_1 : l0_1.length ≤ c0_1) (h : ring_Fit.f k l0_0 l0_1 = some r) :
  Calls Try.prog 21 #[.agg #[.slice A0_0 l0_0.length c0_0, .slice A0_1 l0_1.length c0_1]] w fun e w' => e = .returned (.bool r) ∧ Below w.heap.size w w' := by
 have hu27 := Try.underlying27
 have HR0_0 := Aside0.mk hr0_0
 have HC0_0 := Aside0.mk hc0_0
 clear hr0_0 hc0_0
 have HR0_1 := Aside0.mk hr0_1
 have HC0_1 := Aside0.mk hc0_1
 clear hr0_1 hc0_1
 have HB := Aside0.mk (Below.refl w.heap.size w)
 have H : (if (l0_1.length : Int) < 3 then (ring_Fit.j0 k (l0_1.length : Int) true l0_0 l0_1) else ((graph_Valid.f l0_0 l0_1).bind fun t103 => (ring_Fit.j0 k (l0_1.length : Int) (!t103) l0_0 l0_1))) = some r := h
 clear h
 have HC2 := Aside0.mk H
 clear H
 go_enter Try.func21, Try.ntmps21
 go_upto_region 2 with (first | ((with_reducible refine gate_dst (N := 1) rfl ?_); refine box_event ?hg (N := 1) ?hd (cs := #[.slice A0_0 l0_0.length c0_0, .slice A0_1 l0_1.length c0_1]) (t := 27) ?hr ?_; (case hd => rfl); (case hg => rfl); (case hr => first | (go_simp; done) | (go_simp; rfl)); intro gb102 hg w3 hbox hb; have n0_ := Aside0.mk (below_step (by repeat (first | (with_reducible first | exact HB.out | apply below_alloc | apply pw_below_drewN | apply below_drew1) | exact HB.out)) hb); have n1_ := Aside0.mk (hbox); have n2_ := Aside0.mk ((by rw [hg]; exact (below_size (by repeat (first | (with_reducible first | exact HB.out | apply below_alloc | apply pw_below_drewN | apply below_drew1) | exact HB.out))) : w.heap.size ≤ gb102)); have n3_ := Aside0.mk ((by rw [hg]; exact (below_size (by repeat (first | (with_reducible first | exact HB.out | apply below_alloc | apply pw_below_drewN | apply below_drew1) | exact HB.out))) : w.heap.size ≤ gb102)); clear HB; have HB := n0_; have BK102 := n1_; have GW102 := n2_; have GE102 := n3_; clear n0_ n1_ n2_ n3_; clear hb hbox hg; have hcz4_0 : w3.cell? ⟨gb102, 0, none⟩ = some (.slice A0_0 l0_0.length c0_0) := (blk_cell BK102.out 0).trans rfl; have hcz4_1 : w3.cell? ⟨gb102, 1, none⟩ = some (.slice A0_1 l0_1.length c0_1) := (blk_cell BK102.out 1).trans rfl; have hfz4_0 := blk_frozen BK102.out 0; have hfz4_1 := blk_frozen BK102.out 1))
 repeat (go_quiet (first | ((with_reducible refine gate_dst (N := 1) rfl ?_); refine box_event ?hg (N := 1) ?hd (cs := #[.slice A0_0 l0_0.length c0_0, .slice A0_1 l0_1.length c0_1]) (t := 27) ?hr ?_; (case hd => rfl); (case hg => rfl); (case hr => first | (go_simp; done) | (go_simp; rfl)); intro gb102 hg w3 hbox hb; have n0_ := Aside0.mk (below_step (by repeat (first | (with_reducible first | exact HB.out | apply below_alloc | apply pw_below_drewN | apply below_drew1) | exact HB.out)) hb); have n1_ := Aside0.mk (hbox); have n2_ := Aside0.mk ((by rw [hg]; exact (below_size (by repeat (first | (with_reducible first | exact HB.out | apply below_alloc | apply pw_below_drewN | apply below_drew1) | exact HB.out))) : w.heap.size ≤ gb102)); have n3_ := Aside0.mk ((by rw [hg]; exact (below_size (by repeat (first | (with_reducible first | exact HB.out | apply below_alloc | apply pw_below_drewN | apply below_drew1) | exact HB.out))) : w.heap.size ≤ gb102)); clear HB; have HB := n0_; have BK102 := n1_; have GW102 := n2_; have GE102 := n3_; clear n0_ n1_ n2_ n3_; clear hb hbox hg; have hcz4_0 : w3.cell? ⟨gb102, 0, none⟩ = some (.slice A0_0 l0_0.length c0_0) := (blk_cell BK102.out 0).trans rfl; have hcz4_1 : w3.cell? ⟨gb102, 1, none⟩ = some (.slice A0_1 l0_1.length c0_1) := (blk_cell BK102.out 1).trans rfl; have hfz4_0 := blk_frozen BK102.out 0; have hfz4_1 := blk_frozen BK102.out 1)); go_upto_region 2 with (first | ((with_reducible refine gate_dst (N := 1) rfl ?_); refine box_event ?hg (N := 1) ?hd (cs := #[.slice A0_0 l0_0.length c0_0, .slice A0_1 l0_1.length c0_1]) (t := 27) ?hr ?_; (case hd => rfl); (case hg => rfl); (case hr => first | (go_simp; done) | (go_simp; rfl)); intro gb102 hg w3 hbox hb; have n0_ := Aside0.mk (below_step (by repeat (first | (with_reducible first | exact HB.out | apply below_alloc | apply pw_below_drewN | apply below_drew1) | exact HB.out)) hb); have n1_ := Aside0.mk (hbox); have n2_ := Aside0.mk ((by rw [hg]; exact (below_size (by repeat (first | (with_reducible first | exact HB.out | apply below_alloc | apply pw_below_drewN | apply below_drew1) | exact HB.out))) : w.heap.size ≤ gb102)); have n3_ := Aside0.mk ((by rw [hg]; exact (below_size (by repeat (first | (with_reducible first | exact HB.out | apply below_alloc | apply pw_below_drewN | apply below_drew1) | exact HB.out))) : w.heap.size ≤ gb102)); clear HB; have HB := n0_; have BK102 := n1_; have GW102 := n2_; have GE102 := n3_; clear n0_ n1_ n2_ n3_; clear hb hbox hg; have hcz4_0 : w3.cell? ⟨gb102, 0, none⟩ = some (.slice A0_0 l0_0.length c0_0) := (blk_cell BK102.out 0).trans rfl; have hcz4_1 : w3.cell? ⟨gb102, 1, none⟩ = some (.slice A0_1 l0_1.length c0_1) := (blk_cell BK102.out 1).trans rfl; have hfz4_0 := blk_frozen BK102.out 0; have hfz4_1 := blk_frozen BK102.out 1)))
 (try simp only [Act.put, List.setIfInBounds_toArray, List.set_cons_zero, List.set_cons_succ])
 go_cut [15] (fun v15 wc => ∃ (kq : Nat) (x15_1 : Bool), v15 = .bool x15_1 ∧ Aside0 (ring_Fit.j0 kq (l0_1.length : Int) x15_1 l0_0 l0_1 = some r) ∧ Aside0 (kq ≤ k) ∧ Aside0 (wc.heap[gb102]? = some (.cells #[(.slice A0_0 l0_0.length c0_0), (.slice A0_1 l0_1.length c0_1)] 27 (0, 0))) ∧ Aside0 (Below w.heap.size w wc))
 case first =>
  have H := HC2.out
  clear HC2
  by_cases c5 : (l0_1.length : Int) < 3
  ·
   rw [if_pos c5] at H
   have c5b0 : decide ((l0_1.length : Int) < 3) = true := decide_eq_true c5
   have c5b1 : decide (l0_1.length < 3) = true := decide_eq_true (by omega)
   clear c5
   (first | rw [c5b0] | (simp only [i64_w, i32_w]; rw [c5b0]) | skip)
   have H' := Aside0.mk H
   clear H
   go_wp2
   repeat (go_quiet (fail); try go_wp2)
   go_meet
   case rel => exact ⟨_, (true), (by first | rfl | (simp; done) | (simp [*]; done)), H', ⟨by first | omega | exact Nat.le_refl _⟩, ⟨by (with_reducible repeat (first | refine blk_drewN ?_ _ | refine blk_drew ?_ | refine blk_alloc ?_ _)); exact BK102.out⟩, ⟨by repeat (first | (with_reducible first | exact HB.out | apply below_alloc | apply pw_below_drewN | apply below_drew1 | refine below_set ?_ GE102.out) | exact HB.out)⟩⟩
  ·
   rw [if_neg c5] at H
   have c5b0 : decide ((l0_1.length : Int) < 3) = false := decide_eq_false c5
   have c5b1 : decide (l0_1.length < 3) = false := decide_eq_false (by omega)
   clear c5
   (first | rw [c5b0] | (simp only [i64_w, i32_w]; rw [c5b0]) | skip)
   replace H := Option.bind_eq_some_iff.mp H
   obtain ⟨t103, A60, H⟩ := H
   replace H : (ring_Fit.j0 k (l0_1.length : Int) (!t103) l0_0 l0_1) = some r := H
   have A6 := Aside0.mk A60
   clear A60
   have H' := Aside0.mk H
   clear H
   have hcz7_0 : w3.cell? ⟨gb102, 0, none⟩ = some (.slice A0_0 l0_0.length c0_0) := (blk_cell BK102.out 0).trans rfl
   have hcz7_1 : w3.cell? ⟨gb102, 1, none⟩ = some (.slice A0_1 l0_1.length c0_1) := (blk_cell BK102.out 1).trans rfl
   have hfz7_0 := blk_frozen BK102.out 0
   have hfz7_1 := blk_frozen BK102.out 1
   go_wp2_with (first | (go_at_call 80; (with_reducible refine (graph_Valid.calls _ _ l0_0 _ _ l0_1 t103 _ ?side1 ?side2 ?side3 ?side4 A6.out).mono ?_); (case side1 => repeat (first | exact (Kd.C_below HR0_0.out HB.out) | (with_reducible refine Kd.C_alloc ?_ _) | (with_reducible refine Kd.C_drewN ?_ _) | (with_reducible refine Kd.C_drew ?_))); (case side2 => exact HC0_0.out); (case side3 => repeat (first | exact (Kd.C_below HR0_1.out HB.out) | (with_reducible refine Kd.C_alloc ?_ _) | (with_reducible refine Kd.C_drewN ?_ _) | (with_reducible refine Kd.C_drew ?_))); (case side4 => exact HC0_1.out); rintro e w8 ⟨rfl, hb⟩; have n0_ := Aside0.mk (blk_below (g := gb102) (o := .cells #[.slice A0_0 l0_0.length c0_0, .slice A0_1 l0_1.length c0_1] 27 (0, 0)) (by (with_reducible repeat (first | refine blk_drewN ?_ _ | refine blk_drew ?_ | refine blk_alloc ?_ _)); exact BK102.out) hb); have n1_ := Aside0.mk (below_step (by repeat (first | (with_reducible first | exact HB.out | apply below_alloc | apply pw_below_drewN | apply below_drew1 | refine below_set ?_ GE102.out) | exact HB.out)) hb); clear BK102; clear HB; have BK102 := n0_; have HB := n1_; clear n0_ n1_; (try clear hb); (try clear hb2); (try clear hk); (try clear hi)))
   repeat (go_quiet (first | (go_at_call 80; (with_reducible refine (graph_Valid.calls _ _ l0_0 _ _ l0_1 t103 _ ?side1 ?side2 ?side3 ?side4 A6.out).mono ?_); (case side1 => repeat (first | exact (Kd.C_below HR0_0.out HB.out) | (with_reducible refine Kd.C_alloc ?_ _) | (with_reducible refine Kd.C_drewN ?_ _) | (with_reducible refine Kd.C_drew ?_))); (case side2 => exact HC0_0.out); (case side3 => repeat (first | exact (Kd.C_below HR0_1.out HB.out) | (with_reducible refine Kd.C_alloc ?_ _) | (with_reducible refine Kd.C_drewN ?_ _) | (with_reducible refine Kd.C_drew ?_))); (case side4 => exact HC0_1.out); rintro e w8 ⟨rfl, hb⟩; have n0_ := Aside0.mk (blk_below (g := gb102) (o := .cells #[.slice A0_0 l0_0.length c0_0, .slice A0_1 l0_1.length c0_1] 27 (0, 0)) (by (with_reducible repeat (first | refine blk_drewN ?_ _ | refine blk_drew ?_ | refine blk_alloc ?_ _)); exact BK102.out) hb); have n1_ := Aside0.mk (below_step (by repeat (first | (with_reducible first | exact HB.out | apply below_alloc | apply pw_below_drewN | apply below_drew1 | refine below_set ?_ GE102.out) | exact HB.out)) hb); clear BK102; clear HB; have BK102 := n0_; have HB := n1_; clear n0_ n1_; (try clear hb); (try clear hb2); (try clear hk); (try clear hi))); try go_wp2_with (first | (go_at_call 80; (with_reducible refine (graph_Valid.calls _ _ l0_0 _ _ l0_1 t103 _ ?side1 ?side2 ?side3 ?side4 A6.out).mono ?_); (case side1 => repeat (first | exact (Kd.C_below HR0_0.out HB.out) | (with_reducible refine Kd.C_alloc ?_ _) | (with_reducible refine Kd.C_drewN ?_ _) | (with_reducible refine Kd.C_drew ?_))); (case side2 => exact HC0_0.out); (case side3 => repeat (first | exact (Kd.C_below HR0_1.out HB.out) | (with_reducible refine Kd.C_alloc ?_ _) | (with_reducible refine Kd.C_drewN ?_ _) | (with_reducible refine Kd.C_drew ?_))); (case side4 => exact HC0_1.out); rintro e w8 ⟨rfl, hb⟩; have n0_ := Aside0.mk (blk_below (g := gb102) (o := .cells #[.slice A0_0 l0_0.length c0_0, .slice A0_1 l0_1.length c0_1] 27 (0, 0)) (by (with_reducible repeat (first | refine blk_drewN ?_ _ | refine blk_drew ?_ | refine blk_alloc ?_ _)); exact BK102.out) hb); have n1_ := Aside0.mk (below_step (by repeat (first | (with_reducible first | exact HB.out | apply below_alloc | apply pw_below_drewN | apply below_drew1 | refine below_set ?_ GE102.out) | exact HB.out)) hb); clear BK102; clear HB; have BK102 := n0_; have HB := n1_; clear n0_ n1_; (try clear hb); (try clear hb2); (try clear hk); (try clear hi))))
   go_meet
   case rel => exact ⟨_, (!t103), (by first | rfl | (simp; done) | (simp [*]; done)), H', ⟨by first | omega | exact Nat.le_refl _⟩, ⟨by (with_reducible repeat (first | refine blk_drewN ?_ _ | refine blk_drew ?_ | refine blk_alloc ?_ _)); exact BK102.out⟩, ⟨by repeat (first | (with_reducible first | exact HB.out | apply below_alloc | apply pw_below_drewN | apply below_drew1 | refine below_set ?_ GE102.out) | exact HB.out)⟩⟩
 case rest =>
  clear HC2
  try clear c2
  try clear p2
  try clear c5
  try clear c5b0
  try clear c5b1
  try clear hcz4_0
  try clear hcz4_1
  try clear hcz7_0
  try clear hcz7_1
  try clear hfz4_0
  try clear hfz4_1
  try clear hfz7_0
  try clear hfz7_1
  obtain ⟨kq, x15_1, rfl, HA, HJ1, BK102, HB⟩ := hcut
  cases kq with
  | zero => exact absurd HA.out (by simp [ring_Fit.j0])
  | succ kj1 =>
   have H := HA.out
   clear HA
   simp only [ring_Fit.j0] at H
   by_cases c9 : x15_1 = true
   ·
    subst c9
    have H1 : (some false) = some r := by rw [if_pos rfl] at H; exact H
    clear H
    have H := H1
    clear H1
    obtain rfl := Option.some.inj H
    go_wp2
    repeat (go_quiet (fail); try go_wp2)
    go_ret
    exact ⟨by first | rfl | (simp [errW_none, errW_some] <;> rfl) | (simp [*, errW_none, errW_some] <;> rfl), by repeat (first | (with_reducible first | exact HB.out | apply below_alloc | apply pw_below_drewN | apply below_drew1 | refine below_set ?_ GE102.out) | exact HB.out)⟩
   ·
    replace c9 := Bool.eq_false_iff.mpr c9
    subst c9
    have H1 : (ring_Fit.l0 kj1 (l0_1.length : Int) (l0_1.length : Int) 0 l0_0 l0_1) = some r := by rw [if_neg (show ¬ (false = true) by decide)] at H; exact H
    clear H
    have H := H1
    clear H1
    have H' := Aside0.mk H
    clear H
    go_wp2
    repeat (go_quiet (fail); try go_wp2)
    go_loopg [17] kj1 (fun kq v17 w' => ∃ (x17_2 : Int), v17 = .int .i64 x17_2 ∧ Aside0 (ring_Fit.l0 kq (l0_1.length : Int) (l0_1.length : Int) x17_2 l0_0 l0_1 = some r) ∧ Aside0 (kq ≤ kj1) ∧ Aside0 (w'.heap[gb102]? = some (.cells #[(.slice A0_0 l0_0.length c0_0), (.slice A0_1 l0_1.length c0_1)] 27 (0, 0))) ∧ Aside0 (Below w.heap.size w w'))
    case atStart => exact ⟨(0), (by first | rfl | (simp; done) | (simp [*]; done)), H', ⟨Nat.le_refl _⟩, ⟨by (with_reducible repeat (first | refine blk_drewN ?_ _ | refine blk_drew ?_ | refine blk_alloc ?_ _)); exact BK102.out⟩, ⟨by repeat (first | (with_reducible first | exact HB.out | apply below_alloc | apply pw_below_drewN | apply below_drew1 | refine below_set ?_ GE102.out) | exact HB.out)⟩⟩
    case round =>
     clear H'
     try clear c2
     try clear p2
     try clear c5
     try clear c5b0
     try clear c5b1
     try clear c9
     try clear hcz4_0
     try clear hcz4_1
     try clear hcz7_0
     try clear hcz7_1
     try clear hfz4_0
     try clear hfz4_1
     try clear hfz7_0
     try clear hfz7_1
     try clear p2
     obtain ⟨x17_2, rfl, HA, HK2, BK102, HB⟩ := hrel
     cases gk with
     | zero => exact absurd HA.out (by simp [ring_Fit.l0])
     | succ k2 =>
      have H := HA.out
      clear HA
      simp only [ring_Fit.l0] at H
      by_cases c10 : x17_2 < (l0_1.length : Int)
      ·
       rw [if_pos c10] at H
       have c10b0 : decide (x17_2 < (l0_1.length : Int)) = true := decide_eq_true c10
       clear c10
       by_cases c11 : 0 ≤ x17_2
       ·
        rw [if_pos c11] at H
        have c11b0 : decide (0 ≤ x17_2) = true := decide_eq_true c11
        clear c11
        by_cases c12 : x17_2 < (l0_1.length : Int)
        ·
         rw [if_pos c12] at H
         have c12b0 : decide (x17_2 < (l0_1.length : Int)) = true := decide_eq_true c12
         clear c12
         by_cases c13 : ((rd_L2 l0_1 x17_2).length : Int) = 2
         ·
          rw [if_pos c13] at H
          have c13b0 : (((rd_L2 l0_1 x17_2).length : Int) == 2) = true := beq_iff_eq.mpr c13
          have c13b1 : (((rd_L2 l0_1 x17_2).length : Int) != 2) = false := bne_eq_false_iff_eq.mpr c13
          clear c13
          by_cases c14 : 0 < ((rd_L2 l0_1 x17_2).length : Int)
          ·
           rw [if_pos c14] at H
           have c14b0 : decide (0 < ((rd_L2 l0_1 x17_2).length : Int)) = true := decide_eq_true c14
           have c14b1 : decide (0 < (rd_L2 l0_1 x17_2).length) = true := decide_eq_true (by omega)
           clear c14
           by_cases c15 : (l0_1.length : Int) = 0
           ·
            rw [if_pos c15] at H
            exact absurd H (by simp)
           ·
            rw [if_neg c15] at H
            have c15b0 : ((l0_1.length : Int) == 0) = false := beq_eq_false_iff_ne.mpr c15
            have c15b1 : ((l0_1.length : Int) != 0) = true := bne_iff_ne.mpr c15
            have c15b2 : ¬ (l0_1 = []) := fun h_ => c15 (by rw [h_]; rfl)
            by_cases c16 : ((rd_T60 (rd_L2 l0_1 x17_2) 0).f0) = (Int.tmod (wrap64 ((wrap64 (x17_2 + (l0_1.length : Int))) - 1)) (l0_1.length : Int))
            ·
             rw [if_pos c16] at H
             have c16b0 : (((rd_T60 (rd_L2 l0_1 x17_2) 0).f0) == (Int.tmod (wrap64 ((wrap64 (x17_2 + (l0_1.length : Int))) - 1)) (l0_1.length : Int))) = true := beq_iff_eq.mpr c16
             have c16b1 : (((rd_T60 (rd_L2 l0_1 x17_2) 0).f0) != (Int.tmod (wrap64 ((wrap64 (x17_2 + (l0_1.length : Int))) - 1)) (l0_1.length : Int))) = false := bne_eq_false_iff_eq.mpr c16
             clear c16
             by_cases c17 : 1 < ((rd_L2 l0_1 x17_2).length : Int)
             ·
              rw [if_pos c17] at H
              have c17b0 : decide (1 < ((rd_L2 l0_1 x17_2).length : Int)) = true := decide_eq_true c17
              have c17b1 : decide (1 < (rd_L2 l0_1 x17_2).length) = true := decide_eq_true (by omega)
              clear c17
              by_cases c18 : ((rd_T60 (rd_L2 l0_1 x17_2) 1).f0) = (Int.tmod (wrap64 (x17_2 + 1)) (l0_1.length : Int))
              ·
               rw [if_pos c18] at H
               have c18b0 : (((rd_T60 (rd_L2 l0_1 x17_2) 1).f0) == (Int.tmod (wrap64 (x17_2 + 1)) (l0_1.length : Int))) = true := beq_iff_eq.mpr c18
               have c18b1 : (((rd_T60 (rd_L2 l0_1 x17_2) 1).f0) != (Int.tmod (wrap64 (x17_2 + 1)) (l0_1.length : Int))) = false := bne_eq_false_iff_eq.mpr c18
               clear c18
               have H' := Aside0.mk H
               clear H
               have hcz19_0 : wr.cell? ⟨gb102, 0, none⟩ = some (.slice A0_0 l0_0.length c0_0) := (blk_cell BK102.out 0).trans rfl
               have hcz19_1 : wr.cell? ⟨gb102, 1, none⟩ = some (.slice A0_1 l0_1.length c0_1) := (blk_cell BK102.out 1).trans rfl
               have hfz19_0 := blk_frozen BK102.out 0
               have hfz19_1 := blk_frozen BK102.out 1
               have p104 : 0 ≤ (x17_2 : Int) := of_decide_eq_true (by first | (with_reducible assumption) | assumption)
               have q104 : x17_2 < (l0_1.length : Int) := of_decide_eq_true (by first | (with_reducible assumption) | assumption)
               obtain ⟨ad104, A104_0, c104_0, e104, hx104_0, hl104_0, hi104_0⟩ := at_L2 HR0_1.out x17_2 p104 q104
               cases e104
               replace hx104_0 := (HB.out.cell (World.block_lt_of_cell? w _ hx104_0)).trans hx104_0
               have HR104_0 := Aside0.mk hi104_0
               have HC104_0 := Aside0.mk hl104_0
               clear hi104_0 hl104_0
               replace p104 := eq_true p104
               replace q104 := eq_true q104
               have p105 : 0 ≤ (0 : Int) := (by omega)
               have q105 : 0 < ((rd_L2 l0_1 x17_2).length : Int) := of_decide_eq_true (by first | (with_reducible assumption) | assumption)
               obtain ⟨ad105, e105, hx105_0, hx105_1⟩ := at_T60 HR104_0.out 0 p105 q105
               cases e105
               have qi105 : (0 < (rd_L2 l0_1 x17_2).length) = True := eq_true (by omega)
               (try rw [show ((0 : Int)).toNat = 0 from rfl] at hx105_0)
               (try rw [show 0 * 2 = 0 from rfl] at hx105_0)
               (try rw [Addr.add_zero'] at hx105_0)
               (try rw [show ((0 : Int)).toNat = 0 from rfl] at hx105_1)
               (try rw [show 0 * 2 = 0 from rfl] at hx105_1)
               (try rw [Addr.add_zero'] at hx105_1)
               replace hx105_0 := (HB.out.cell (World.block_lt_of_cell? w _ hx105_0)).trans hx105_0
               replace hx105_1 := (HB.out.cell (World.block_lt_of_cell? w _ hx105_1)).trans hx105_1
               replace p105 := eq_true p105
               replace q105 := eq_true q105
               have p106 : 0 ≤ (1 : Int) := (by omega)
               have q106 : 1 < ((rd_L2 l0_1 x17_2).length : Int) := of_decide_eq_true (by first | (with_reducible assumption) | assumption)
               obtain ⟨ad106, e106, hx106_0, hx106_1⟩ := at_T60 HR104_0.out 1 p106 q106
               obtain rfl : ad105 = ad106 := (by injection e106)
               (try simp only [show (1 : Int).toNat = 1 from rfl, Nat.reduceMul, Nat.reduceEqDiff, Go.Addr.add, ↓reduceIte] at hx106_0)
               (try simp only [show (1 : Int).toNat = 1 from rfl, Nat.reduceMul, Nat.reduceEqDiff, Go.Addr.add, ↓reduceIte] at hx106_1)
               have qi106 : (1 < (rd_L2 l0_1 x17_2).length) = True := eq_true (by omega)
               (try rw [show ((1 : Int)).toNat = 1 from rfl] at hx106_0)
               (try rw [show 1 * 2 = 2 from rfl] at hx106_0)
               (try rw [show ((1 : Int)).toNat = 1 from rfl] at hx106_1)
               (try rw [show 1 * 2 = 2 from rfl] at hx106_1)
               replace hx106_0 := (HB.out.cell (World.block_lt_of_cell? w _ hx106_0)).trans hx106_0
               replace hx106_1 := (HB.out.cell (World.block_lt_of_cell? w _ hx106_1)).trans hx106_1
               replace p106 := eq_true p106
               replace q106 := eq_true q106
               go_wp2
               repeat (go_quiet (fail); try go_wp2)
               go_roundg k2
               case measure => have := HJ1.out; have := HK2.out; omega
               case rel => exact ⟨(wrap64 (x17_2 + 1)), (by first | rfl | (simp; done) | (simp [*]; done)), H', ⟨by have := HJ1.out; have := HK2.out; omega⟩, ⟨by (with_reducible repeat (first | refine blk_drewN ?_ _ | refine blk_drew ?_ | refine blk_alloc ?_ _)); exact BK102.out⟩, ⟨by repeat (first | (with_reducible first | exact HB.out | apply below_alloc | apply pw_below_drewN | apply below_drew1 | refine below_set ?_ GE102.out) | exact HB.out)⟩⟩
              ·
               rw [if_neg c18] at H
               have c18b0 : (((rd_T60 (rd_L2 l0_1 x17_2) 1).f0) == (Int.tmod (wrap64 (x17_2 + 1)) (l0_1.length : Int))) = false := beq_eq_false_iff_ne.mpr c18
               have c18b1 : (((rd_T60 (rd_L2 l0_1 x17_2) 1).f0) != (Int.tmod (wrap64 (x17_2 + 1)) (l0_1.length : Int))) = true := bne_iff_ne.mpr c18
               obtain rfl := Option.some.inj H
               have hcz20_0 : wr.cell? ⟨gb102, 0, none⟩ = some (.slice A0_0 l0_0.length c0_0) := (blk_cell BK102.out 0).trans rfl
               have hcz20_1 : wr.cell? ⟨gb102, 1, none⟩ = some (.slice A0_1 l0_1.length c0_1) := (blk_cell BK102.out 1).trans rfl
               have hfz20_0 := blk_frozen BK102.out 0
               have hfz20_1 := blk_frozen BK102.out 1
               have p104 : 0 ≤ (x17_2 : Int) := of_decide_eq_true (by first | (with_reducible assumption) | assumption)
               have q104 : x17_2 < (l0_1.length : Int) := of_decide_eq_true (by first | (with_reducible assumption) | assumption)
               obtain ⟨ad104, A104_0, c104_0, e104, hx104_0, hl104_0, hi104_0⟩ := at_L2 HR0_1.out x17_2 p104 q104
               cases e104
               replace hx104_0 := (HB.out.cell (World.block_lt_of_cell? w _ hx104_0)).trans hx104_0
               have HR104_0 := Aside0.mk hi104_0
               have HC104_0 := Aside0.mk hl104_0
               clear hi104_0 hl104_0
               replace p104 := eq_true p104
               replace q104 := eq_true q104
               have p105 : 0 ≤ (0 : Int) := (by omega)
               have q105 : 0 < ((rd_L2 l0_1 x17_2).length : Int) := of_decide_eq_true (by first | (with_reducible assumption) | assumption)
               obtain ⟨ad105, e105, hx105_0, hx105_1⟩ := at_T60 HR104_0.out 0 p105 q105
               cases e105
               have qi105 : (0 < (rd_L2 l0_1 x17_2).length) = True := eq_true (by omega)
               (try rw [show ((0 : Int)).toNat = 0 from rfl] at hx105_0)
               (try rw [show 0 * 2 = 0 from rfl] at hx105_0)
               (try rw [Addr.add_zero'] at hx105_0)
               (try rw [show ((0 : Int)).toNat = 0 from rfl] at hx105_1)
               (try rw [show 0 * 2 = 0 from rfl] at hx105_1)
               (try rw [Addr.add_zero'] at hx105_1)
               replace hx105_0 := (HB.out.cell (World.block_lt_of_cell? w _ hx105_0)).trans hx105_0
               replace hx105_1 := (HB.out.cell (World.block_lt_of_cell? w _ hx105_1)).trans hx105_1
               replace p105 := eq_true p105
               replace q105 := eq_true q105
               have p106 : 0 ≤ (1 : Int) := (by omega)
               have q106 : 1 < ((rd_L2 l0_1 x17_2).length : Int) := of_decide_eq_true (by first | (with_reducible assumption) | assumption)
               obtain ⟨ad106, e106, hx106_0, hx106_1⟩ := at_T60 HR104_0.out 1 p106 q106
               obtain rfl : ad105 = ad106 := (by injection e106)
               (try simp only [show (1 : Int).toNat = 1 from rfl, Nat.reduceMul, Nat.reduceEqDiff, Go.Addr.add, ↓reduceIte] at hx106_0)
               (try simp only [show (1 : Int).toNat = 1 from rfl, Nat.reduceMul, Nat.reduceEqDiff, Go.Addr.add, ↓reduceIte] at hx106_1)
               have qi106 : (1 < (rd_L2 l0_1 x17_2).length) = True := eq_true (by omega)
               (try rw [show ((1 : Int)).toNat = 1 from rfl] at hx106_0)
               (try rw [show 1 * 2 = 2 from rfl] at hx106_0)
               (try rw [show ((1 : Int)).toNat = 1 from rfl] at hx106_1)
               (try rw [show 1 * 2 = 2 from rfl] at hx106_1)
               replace hx106_0 := (HB.out.cell (World.block_lt_of_cell? w _ hx106_0)).trans hx106_0
               replace hx106_1 := (HB.out.cell (World.block_lt_of_cell? w _ hx106_1)).trans hx106_1
               replace p106 := eq_true p106
               replace q106 := eq_true q106
               go_wp2
               repeat (go_quiet (fail); try go_wp2)
               go_ret
               exact ⟨by first | rfl | (simp [errW_none, errW_some] <;> rfl) | (simp [*, errW_none, errW_some] <;> rfl), by repeat (first | (with_reducible first | exact HB.out | apply below_alloc | apply pw_below_drewN | apply below_drew1 | refine below_set ?_ GE102.out) | exact HB.out)⟩
             ·
              rw [if_neg c17] at H
              exact absurd H (by simp)
            ·
             rw [if_neg c16] at H
             have c16b0 : (((rd_T60 (rd_L2 l0_1 x17_2) 0).f0) == (Int.tmod (wrap64 ((wrap64 (x17_2 + (l0_1.length : Int))) - 1)) (l0_1.length : Int))) = false := beq_eq_false_iff_ne.mpr c16
             have c16b1 : (((rd_T60 (rd_L2 l0_1 x17_2) 0).f0) != (Int.tmod (wrap64 ((wrap64 (x17_2 + (l0_1.length : Int))) - 1)) (l0_1.length : Int))) = true := bne_iff_ne.mpr c16
             obtain rfl := Option.some.inj H
             have hcz21_0 : wr.cell? ⟨gb102, 0, none⟩ = some (.slice A0_0 l0_0.length c0_0) := (blk_cell BK102.out 0).trans rfl
             have hcz21_1 : wr.cell? ⟨gb102, 1, none⟩ = some (.slice A0_1 l0_1.length c0_1) := (blk_cell BK102.out 1).trans rfl
             have hfz21_0 := blk_frozen BK102.out 0
             have hfz21_1 := blk_frozen BK102.out 1
             have p104 : 0 ≤ (x17_2 : Int) := of_decide_eq_true (by first | (with_reducible assumption) | assumption)
             have q104 : x17_2 < (l0_1.length : Int) := of_decide_eq_true (by first | (with_reducible assumption) | assumption)
             obtain ⟨ad104, A104_0, c104_0, e104, hx104_0, hl104_0, hi104_0⟩ := at_L2 HR0_1.out x17_2 p104 q104
             cases e104
             replace hx104_0 := (HB.out.cell (World.block_lt_of_cell? w _ hx104_0)).trans hx104_0
             have HR104_0 := Aside0.mk hi104_0
             have HC104_0 := Aside0.mk hl104_0
             clear hi104_0 hl104_0
             replace p104 := eq_true p104
             replace q104 := eq_true q104
             have p105 : 0 ≤ (0 : Int) := (by omega)
             have q105 : 0 < ((rd_L2 l0_1 x17_2).length : Int) := of_decide_eq_true (by first | (with_reducible assumption) | assumption)
             obtain ⟨ad105, e105, hx105_0, hx105_1⟩ := at_T60 HR104_0.out 0 p105 q105
             cases e105
             have qi105 : (0 < (rd_L2 l0_1 x17_2).length) = True := eq_true (by omega)
             (try rw [show ((0 : Int)).toNat = 0 from rfl] at hx105_0)
             (try rw [show 0 * 2 = 0 from rfl] at hx105_0)
             (try rw [Addr.add_zero'] at hx105_0)
             (try rw [show ((0 : Int)).toNat = 0 from rfl] at hx105_1)
             (try rw [show 0 * 2 = 0 from rfl] at hx105_1)
             (try rw [Addr.add_zero'] at hx105_1)
             replace hx105_0 := (HB.out.cell (World.block_lt_of_cell? w _ hx105_0)).trans hx105_0
             replace hx105_1 := (HB.out.cell (World.block_lt_of_cell? w _ hx105_1)).trans hx105_1
             replace p105 := eq_true p105
             replace q105 := eq_true q105
             go_wp2
             repeat (go_quiet (fail); try go_wp2)
             go_ret
             exact ⟨by first | rfl | (simp [errW_none, errW_some] <;> rfl) | (simp [*, errW_none, errW_some] <;> rfl), by repeat (first | (with_reducible first | exact HB.out | apply below_alloc | apply pw_below_drewN | apply below_drew1 | refine below_set ?_ GE102.out) | exact HB.out)⟩
          ·
           rw [if_neg c14] at H
           exact absurd H (by simp)
         ·
          rw [if_neg c13] at H
          have c13b0 : (((rd_L2 l0_1 x17_2).length : Int) == 2) = false := beq_eq_false_iff_ne.mpr c13
          have c13b1 : (((rd_L2 l0_1 x17_2).length : Int) != 2) = true := bne_iff_ne.mpr c13
          obtain rfl := Option.some.inj H
          have hcz22_0 : wr.cell? ⟨gb102, 0, none⟩ = some (.slice A0_0 l0_0.length c0_0) := (blk_cell BK102.out 0).trans rfl
          have hcz22_1 : wr.cell? ⟨gb102, 1, none⟩ = some (.slice A0_1 l0_1.length c0_1) := (blk_cell BK102.out 1).trans rfl
          have hfz22_0 := blk_frozen BK102.out 0
          have hfz22_1 := blk_frozen BK102.out 1
          have p104 : 0 ≤ (x17_2 : Int) := of_decide_eq_true (by first | (with_reducible assumption) | assumption)
          have q104 : x17_2 < (l0_1.length : Int) := of_decide_eq_true (by first | (with_reducible assumption) | assumption)
          obtain ⟨ad104, A104_0, c104_0, e104, hx104_0, hl104_0, hi104_0⟩ := at_L2 HR0_1.out x17_2 p104 q104
          cases e104
          replace hx104_0 := (HB.out.cell (World.block_lt_of_cell? w _ hx104_0)).trans hx104_0
          have HR104_0 := Aside0.mk hi104_0
          have HC104_0 := Aside0.mk hl104_0
          clear hi104_0 hl104_0
          replace p104 := eq_true p104
          replace q104 := eq_true q104
          go_wp2
          repeat (go_quiet (fail); try go_wp2)
          go_ret
          exact ⟨by first | rfl | (simp [errW_none, errW_some] <;> rfl) | (simp [*, errW_none, errW_some] <;> rfl), by repeat (first | (with_reducible first | exact HB.out | apply below_alloc | apply pw_below_drewN | apply below_drew1 | refine below_set ?_ GE102.out) | exact HB.out)⟩
        ·
         rw [if_neg c12] at H
         exact absurd H (by simp)
       ·
        rw [if_neg c11] at H
        exact absurd H (by simp)
      ·
       rw [if_neg c10] at H
       have c10b0 : decide (x17_2 < (l0_1.length : Int)) = false := decide_eq_false c10
       clear c10
       obtain rfl := Option.some.inj H
       go_wp2
       repeat (go_quiet (fail); try go_wp2)
       go_ret
       exact ⟨by first | rfl | (simp [errW_none, errW_some] <;> rfl) | (simp [*, errW_none, errW_some] <;> rfl), by repeat (first | (with_reducible first | exact HB.out | apply below_alloc | apply pw_below_drewN | apply below_drew1 | refine below_set ?_ GE102.out) | exact HB.out)⟩
end Go.Proofs.YthapikakneikbaaG
namespace Go.Proofs.YthapikakneikbaaG
open Go.RowKit Go.Proofs.YthapikakneikbaaW.PrintWords Go.Proofs.YthapikakneikbaaW.PrintLast Go.Proofs.YthapikakneikbaaW.PrintMore
attribute [local go_sem] max2_int min2_int max_two min_two max_three min_three max_four min_four   -- for this text's walks alone
set_option linter.unusedVariables false
set_option linter.unusedSimpArgs false
/-! ### shape_Holds: function 73 -/
def shape_Holds.f (l0_0 : List Int) (l0_1 : List (List (S60))) (l1 : List (List Int)) (l2 : List Int) : Option (Bool) := some (Go.Proofs.Ythapikakneikbaa.holdsB (toG l0_0 l0_1) l1 l2)
theorem shape_Holds.calls (A0_0 : Option Addr) (c0_0 : Nat) (l0_0 : List Int) (A0_1 : Option Addr) (c0_1 : Nat) (l0_1 : List (List (S60))) (A1 : Option Addr) (c1 : Nat) (l1 : List (List Int)) (A2 : Option Addr) (c2 : Nat) (l2 : List Int) (r : Bool) (w : World) (hr0_0 : Kd.C (Kd.int .i64) w A0_0 l0_0.length l0_0) (hc0_0 : l0_0.length ≤ c0_0) (hr0_1 : Kd.C (Kd.slice 60 k60) w A0_1 l0_1.length l0_1) (hc0_1 : l0_1.length ≤ c0_1) (hr1 : Kd.C (Kd.slice 3 (Kd.int .i64)) w A1 l1.length l1) (hc1 : l1.length ≤ c1) (hr2 : Kd.C (Kd.int .i64) w A2 l2.length l2) (hc2 : l2.length ≤ c2) (h : shape_Holds.f l0_0 l0_1 l1 l2 = some r) :
  Calls Try.prog 73 #[.agg #[.slice A0_0 l0_0.length c0_0, .slice A0_1 l0_1.length c0_1], .slice A1 l1.length c1, .slice A2 l2.length c2] w fun e w' => e = .returned (.bool r) ∧ Below w.heap.size w w' := by
 injection h with h
 subst h
 have hv := Go.Proofs.Ythapikakneikbaa.holds_calls w A0_0 c0_0 A0_1 c0_1 (toG l0_0 l0_1) (isGraph hr0_0 hc0_0 hr0_1 hc0_1) A1 c1 l1 (C_conf hr1) A2 c2 l2 (C_ints hr2)
 rw [show (toG l0_0 l0_1).ports.length = l0_1.length by simp [toG]] at hv
 exact hv
end Go.Proofs.YthapikakneikbaaG
namespace Go.Proofs.YthapikakneikbaaG
open Go.RowKit Go.Proofs.YthapikakneikbaaW.PrintWords Go.Proofs.YthapikakneikbaaW.PrintLast Go.Proofs.YthapikakneikbaaW.PrintMore
attribute [local go_sem] max2_int min2_int max_two min_two max_three min_three max_four min_four   -- for this text's walks alone
set_option linter.unusedVariables false
set_option linter.unusedSimpArgs false
/-! ### ring_configuration: function 81 -/
def ring_configuration.f (k : Nat) (l0_0 : List Int) (l0_1 : List (List (S60))) (l1 : List (List Int)) : Option (Bool) := (ring_Fit.f k l0_0 l0_1).bind fun t108 => (if t108 = true then ((shape_Holds.f l0_0 l0_1 l1 (([(l0_1.length : Int)] : List Int))).bind fun t112 => (some t112)) else (some false))
theorem ring_configuration.mono : ∀ a0 a1 a2 k, LeO (ring_configuration.f k a0 a1 a2) (ring_configuration.f (k + 1) a0 a1 a2) := by
 intro a0 a1 a2 k
 unfold ring_configuration.f
 repeat' first
   | (with_reducible exact ring_Fit.mono _ _ _)
   | (with_reducible exact LeO.refl _)
   | (with_reducible exact LeO.none _)
   | (with_reducible refine LeO.ite ?_ ?_)
   | (with_reducible refine LeO.bind ?_ (fun _ => ?_))
   | exact ring_Fit.mono _ _ _
   | exact LeO.none _
   | refine LeO.ite ?_ ?_
   | refine LeO.bind ?_ (fun _ => ?_)
set_option maxHeartbeats 8000000 in
set_option maxRecDepth 100000 in
theorem ring_configuration.calls (k : Nat) (A0_0 : Option Addr) (c0_0 : Nat) (l0_0 : List Int) (A0_1 : Option Addr) (c0_1 : Nat) (l0_1 : List (List (S60))) (A1 : Option Addr) (c1 : Nat) (l1 : List (List Int)) (r : Bool) (w : World) (hr0_0 : Kd.C (Kd.int .i64) w A0_0 l0_0.length l0_0) (hc0_0 : l0_0.length ≤ c0_0) (hr0_1 : Kd.C (Kd.slice 60 k60) w A0_1 l0_1.length l0_1) (hc0_1 : l0_1.length ≤ c0_1) (hr1 : Kd.C (Kd.slice 3 (Kd.int .i64)) w A1 l1.length l1) (hc1 : l1.length ≤ c1) (h : ring_configuration.f k l0_0 l0_1 l1 = some r) :
  Calls Try.prog 81 #[.agg #[.slice A0_0 l0_0.length c0_0, .slice A0_1 l0_1.length c0_1], .slice A1 l1.length c1] w fun e w' => e = .returned (.bool r) ∧ Below w.heap.size w w' := by
 have hu27 := Try.underlying27
 have HR0_0 := Aside0.mk hr0_0
 have HC0_0 := Aside0.mk hc0_0
 clear hr0_0 hc0_0
 have HR0_1 := Aside0.mk hr0_1
 have HC0_1 := Aside0.mk hc0_1
 clear hr0_1 hc0_1
 have HR1 := Aside0.mk hr1
 have HC1 := Aside0.mk hc1
 clear hr1 hc1
 have HB := Aside0.mk (Below.refl w.heap.size w)
 have H : ((ring_Fit.f k l0_0 l0_1).bind fun t108 => (if t108 = true then ((shape_Holds.f l0_0 l0_1 l1 (([(l0_1.length : Int)] : List Int))).bind fun t112 => (some t112)) else (some false))) = some r := h
 clear h
 replace H := Option.bind_eq_some_iff.mp H
 obtain ⟨t108, A30, H⟩ := H
 replace H : (if t108 = true then ((shape_Holds.f l0_0 l0_1 l1 (([(l0_1.length : Int)] : List Int))).bind fun t112 => (some t112)) else (some false)) = some r := H
 have A3 := Aside0.mk A30
 clear A30
 by_cases c4 : t108 = true
 ·
  subst c4
  have H1 : ((shape_Holds.f l0_0 l0_1 l1 (([(l0_1.length : Int)] : List Int))).bind fun t112 => (some t112)) = some r := by rw [if_pos rfl] at H; exact H
  clear H
  have H := H1
  clear H1
  obtain ⟨y109, hy109⟩ : ∃ y_ : List Int, y_ = (([(l0_1.length : Int)] : List Int)) := ⟨_, rfl⟩
  replace H : ((shape_Holds.f l0_0 l0_1 l1 y109).bind fun t112 => (some t112)) = some r := by first | (rw [hy109]; with_reducible exact H) | (have H2_ := (Option.bind_some _ _).symm.trans H; rw [hy109]; with_reducible exact H2_) | (have H2_ := (Option.bind_some _ _).symm.trans H; with_reducible exact H2_) | with_reducible exact H | (rw [hy109]; exact H) | exact H
  have Ny109 := Aside0.mk hy109
  clear hy109
  replace H := Option.bind_eq_some_iff.mp H
  obtain ⟨t112, A50, H⟩ := H
  replace H : (some t112) = some r := H
  have A5 := Aside0.mk A50
  clear A50
  obtain rfl := Option.some.inj H
  go_enter Try.func81, Try.ntmps81
  go_wp2_with (first | ((with_reducible refine gate_dst (N := 2) rfl ?_); (try (refine gate_guard (by rfl) ?_; dsimp only)); refine box_event ?hg (N := 2) ?hd (cs := #[.slice A0_0 l0_0.length c0_0, .slice A0_1 l0_1.length c0_1]) (t := 27) ?hr ?_; (case hd => rfl); (case hg => rfl); (case hr => first | (go_simp; done) | (go_simp; rfl)); intro gb107 hg w6 hbox hb; have n0_ := Aside0.mk (below_step (by repeat (first | (with_reducible first | exact HB.out | apply below_alloc | apply pw_below_drewN | apply below_drew1) | exact HB.out)) hb); have n1_ := Aside0.mk (hbox); have n2_ := Aside0.mk ((by rw [hg]; exact (below_size (by repeat (first | (with_reducible first | exact HB.out | apply below_alloc | apply pw_below_drewN | apply below_drew1) | exact HB.out))) : w.heap.size ≤ gb107)); have n3_ := Aside0.mk ((by rw [hg]; exact (below_size (by repeat (first | (with_reducible first | exact HB.out | apply below_alloc | apply pw_below_drewN | apply below_drew1) | exact HB.out))) : w.heap.size ≤ gb107)); clear HB; have HB := n0_; have BK107 := n1_; have GW107 := n2_; have GE107 := n3_; clear n0_ n1_ n2_ n3_; clear hb hbox hg; have hcz7_0 : w6.cell? ⟨gb107, 0, none⟩ = some (.slice A0_0 l0_0.length c0_0) := (blk_cell BK107.out 0).trans rfl; have hcz7_1 : w6.cell? ⟨gb107, 1, none⟩ = some (.slice A0_1 l0_1.length c0_1) := (blk_cell BK107.out 1).trans rfl; have hfz7_0 := blk_frozen BK107.out 0; have hfz7_1 := blk_frozen BK107.out 1) | ((with_reducible refine gate_callee (f := 21) rfl ?_); refine goesL_ (some 6) rfl rfl Try.func21 (by kernel_rfl) rfl #[.agg #[.slice A0_0 l0_0.length c0_0, .slice A0_1 l0_1.length c0_1]] rfl (by (try simp only [List.map_toArray, List.map_cons, List.map_nil]); first | done | rfl | (simp only [List.length_drop, List.length_take]; rfl)) ?_; (with_reducible refine (ring_Fit.calls k _ _ l0_0 _ _ l0_1 true _ ?side1 ?side2 ?side3 ?side4 A3.out).mono ?_); (case side1 => repeat (first | exact (Kd.C_below HR0_0.out HB.out) | (with_reducible refine Kd.C_alloc ?_ _) | (with_reducible refine Kd.C_drewN ?_ _) | (with_reducible refine Kd.C_drew ?_))); (case side2 => exact HC0_0.out); (case side3 => repeat (first | exact (Kd.C_below HR0_1.out HB.out) | (with_reducible refine Kd.C_alloc ?_ _) | (with_reducible refine Kd.C_drewN ?_ _) | (with_reducible refine Kd.C_drew ?_))); (case side4 => exact HC0_1.out); rintro e w8 ⟨rfl, hb⟩; refine ⟨_, rfl, ?_⟩; have n0_ := Aside0.mk (blk_below (g := gb107) (o := .cells #[.slice A0_0 l0_0.length c0_0, .slice A0_1 l0_1.length c0_1] 27 (0, 0)) (by (with_reducible repeat (first | refine blk_drewN ?_ _ | refine blk_drew ?_ | refine blk_alloc ?_ _)); exact BK107.out) hb); have n1_ := Aside0.mk (below_step (by repeat (first | (with_reducible first | exact HB.out | apply below_alloc | apply pw_below_drewN | apply below_drew1 | refine below_set ?_ GE107.out) | exact HB.out)) hb); clear BK107; clear HB; have BK107 := n0_; have HB := n1_; clear n0_ n1_; (try clear hb); (try clear hb2); (try clear hk); (try clear hi); have hcz9_0 : w8.cell? ⟨gb107, 0, none⟩ = some (.slice A0_0 l0_0.length c0_0) := (blk_cell BK107.out 0).trans rfl; have hcz9_1 : w8.cell? ⟨gb107, 1, none⟩ = some (.slice A0_1 l0_1.length c0_1) := (blk_cell BK107.out 1).trans rfl; have hfz9_0 := blk_frozen BK107.out 0; have hfz9_1 := blk_frozen BK107.out 1) | ((with_reducible refine gate_dst (N := 13) rfl ?_); (try (refine gate_guard (by rfl) ?_; dsimp only)); refine Kd.R_lit (Kd.int .i64) _ 3 ?hg (N := 13) ?hd (xs := ([(l0_1.length : Int)] : List Int)) (inner := [.int .i64 (l0_1.length : Int)]) (ok := fun _ => True) (okp := fun _ => True) ?hr ?hp (fun _ hk => hk) trivial (Below.refl _ _) (Nat.le_refl _) (by simp) ?_; (case hd => rfl); (case hg => rfl); (case hr => first | (go_simp; done) | (go_simp; rfl)); (case hp => exact (Reps.one (show Kd.M (Kd.int .i64) _ _ _ (l0_1.length : Int) [.int .i64 (l0_1.length : Int)] from rfl) (Reps.none _ _))); intro v110 w10 ho11 hb hg_ hnew_; clear hg_ hnew_; (first | rw [← Ny109.out] at ho11 | (simp only [Int.reduceToNat] at ho11; rw [← Ny109.out] at ho11)); have n0_ := Aside0.mk (Kd.R_lower ho11 (below_size (by repeat (first | (with_reducible first | exact HB.out | apply below_alloc | apply pw_below_drewN | apply below_drew1 | refine below_set ?_ GE107.out) | exact HB.out)))); have n1_ := Aside0.mk (blk_below (g := gb107) (o := .cells #[.slice A0_0 l0_0.length c0_0, .slice A0_1 l0_1.length c0_1] 27 (0, 0)) (by (with_reducible repeat (first | refine blk_drewN ?_ _ | refine blk_drew ?_ | refine blk_alloc ?_ _)); exact BK107.out) hb); have n2_ := Aside0.mk (below_step (by repeat (first | (with_reducible first | exact HB.out | apply below_alloc | apply pw_below_drewN | apply below_drew1 | refine below_set ?_ GE107.out) | exact HB.out)) hb); clear BK107; clear HB; have HO111 := n0_; have BK107 := n1_; have HB := n2_; clear n0_ n1_ n2_; clear hb ho11; obtain ⟨Ao12, co12, eo12⟩ := Kd.R_slice HO111.out; subst eo12) | (go_at_call 73; (with_reducible refine (shape_Holds.calls _ _ l0_0 _ _ l0_1 _ _ l1 _ _ y109 t112 _ ?side1 ?side2 ?side3 ?side4 ?side5 ?side6 ?side7 ?side8 A5.out).mono ?_); (case side1 => repeat (first | exact (Kd.C_below HR0_0.out HB.out) | (with_reducible refine Kd.C_alloc ?_ _) | (with_reducible refine Kd.C_drewN ?_ _) | (with_reducible refine Kd.C_drew ?_))); (case side2 => exact HC0_0.out); (case side3 => repeat (first | exact (Kd.C_below HR0_1.out HB.out) | (with_reducible refine Kd.C_alloc ?_ _) | (with_reducible refine Kd.C_drewN ?_ _) | (with_reducible refine Kd.C_drew ?_))); (case side4 => exact HC0_1.out); (case side5 => repeat (first | exact (Kd.C_below HR1.out HB.out) | (with_reducible refine Kd.C_alloc ?_ _) | (with_reducible refine Kd.C_drewN ?_ _) | (with_reducible refine Kd.C_drew ?_))); (case side6 => exact HC1.out); (case side7 => repeat (first | exact (Kd.R_reads' HO111.out).2.2 | (with_reducible refine Kd.C_alloc ?_ _) | (with_reducible refine Kd.C_drewN ?_ _) | (with_reducible refine Kd.C_drew ?_))); (case side8 => exact (Kd.R_reads' HO111.out).2.1); rintro e w13 ⟨rfl, hb⟩; have n0_ := Aside0.mk (Kd.R_below (by (with_reducible repeat (first | apply Kd.R_alloc | apply Kd.R_drewN | apply Kd.R_drew)); exact HO111.out) hb); have n1_ := Aside0.mk (blk_below (g := gb107) (o := .cells #[.slice A0_0 l0_0.length c0_0, .slice A0_1 l0_1.length c0_1] 27 (0, 0)) (by (with_reducible repeat (first | refine blk_drewN ?_ _ | refine blk_drew ?_ | refine blk_alloc ?_ _)); exact BK107.out) hb); have n2_ := Aside0.mk (below_step (by repeat (first | (with_reducible first | exact HB.out | apply below_alloc | apply pw_below_drewN | apply below_drew1 | refine below_set ?_ GE107.out) | exact HB.out)) hb); clear HO111; clear BK107; clear HB; have HO111 := n0_; have BK107 := n1_; have HB := n2_; clear n0_ n1_ n2_; (try clear hb); (try clear hb2); (try clear hk); (try clear hi)))
  go_ret
  exact ⟨by first | rfl | (simp [errW_none, errW_some] <;> rfl) | (simp [*, errW_none, errW_some] <;> rfl), by repeat (first | (with_reducible first | exact HB.out | apply below_alloc | apply pw_below_drewN | apply below_drew1 | refine below_set ?_ GE107.out) | exact HB.out)⟩
 ·
  replace c4 := Bool.eq_false_iff.mpr c4
  subst c4
  have H1 : (some false) = some r := by rw [if_neg (show ¬ (false = true) by decide)] at H; exact H
  clear H
  have H := H1
  clear H1
  obtain rfl := Option.some.inj H
  go_enter Try.func81, Try.ntmps81
  go_wp2_with (first | ((with_reducible refine gate_dst (N := 2) rfl ?_); (try (refine gate_guard (by rfl) ?_; dsimp only)); refine box_event ?hg (N := 2) ?hd (cs := #[.slice A0_0 l0_0.length c0_0, .slice A0_1 l0_1.length c0_1]) (t := 27) ?hr ?_; (case hd => rfl); (case hg => rfl); (case hr => first | (go_simp; done) | (go_simp; rfl)); intro gb107 hg w14 hbox hb; have n0_ := Aside0.mk (below_step (by repeat (first | (with_reducible first | exact HB.out | apply below_alloc | apply pw_below_drewN | apply below_drew1) | exact HB.out)) hb); have n1_ := Aside0.mk (hbox); have n2_ := Aside0.mk ((by rw [hg]; exact (below_size (by repeat (first | (with_reducible first | exact HB.out | apply below_alloc | apply pw_below_drewN | apply below_drew1) | exact HB.out))) : w.heap.size ≤ gb107)); have n3_ := Aside0.mk ((by rw [hg]; exact (below_size (by repeat (first | (with_reducible first | exact HB.out | apply below_alloc | apply pw_below_drewN | apply below_drew1) | exact HB.out))) : w.heap.size ≤ gb107)); clear HB; have HB := n0_; have BK107 := n1_; have GW107 := n2_; have GE107 := n3_; clear n0_ n1_ n2_ n3_; clear hb hbox hg; have hcz15_0 : w14.cell? ⟨gb107, 0, none⟩ = some (.slice A0_0 l0_0.length c0_0) := (blk_cell BK107.out 0).trans rfl; have hcz15_1 : w14.cell? ⟨gb107, 1, none⟩ = some (.slice A0_1 l0_1.length c0_1) := (blk_cell BK107.out 1).trans rfl; have hfz15_0 := blk_frozen BK107.out 0; have hfz15_1 := blk_frozen BK107.out 1) | ((with_reducible refine gate_callee (f := 21) rfl ?_); refine goesL_ (some 6) rfl rfl Try.func21 (by kernel_rfl) rfl #[.agg #[.slice A0_0 l0_0.length c0_0, .slice A0_1 l0_1.length c0_1]] rfl (by (try simp only [List.map_toArray, List.map_cons, List.map_nil]); first | done | rfl | (simp only [List.length_drop, List.length_take]; rfl)) ?_; (with_reducible refine (ring_Fit.calls k _ _ l0_0 _ _ l0_1 false _ ?side1 ?side2 ?side3 ?side4 A3.out).mono ?_); (case side1 => repeat (first | exact (Kd.C_below HR0_0.out HB.out) | (with_reducible refine Kd.C_alloc ?_ _) | (with_reducible refine Kd.C_drewN ?_ _) | (with_reducible refine Kd.C_drew ?_))); (case side2 => exact HC0_0.out); (case side3 => repeat (first | exact (Kd.C_below HR0_1.out HB.out) | (with_reducible refine Kd.C_alloc ?_ _) | (with_reducible refine Kd.C_drewN ?_ _) | (with_reducible refine Kd.C_drew ?_))); (case side4 => exact HC0_1.out); rintro e w16 ⟨rfl, hb⟩; refine ⟨_, rfl, ?_⟩; have n0_ := Aside0.mk (blk_below (g := gb107) (o := .cells #[.slice A0_0 l0_0.length c0_0, .slice A0_1 l0_1.length c0_1] 27 (0, 0)) (by (with_reducible repeat (first | refine blk_drewN ?_ _ | refine blk_drew ?_ | refine blk_alloc ?_ _)); exact BK107.out) hb); have n1_ := Aside0.mk (below_step (by repeat (first | (with_reducible first | exact HB.out | apply below_alloc | apply pw_below_drewN | apply below_drew1 | refine below_set ?_ GE107.out) | exact HB.out)) hb); clear BK107; clear HB; have BK107 := n0_; have HB := n1_; clear n0_ n1_; (try clear hb); (try clear hb2); (try clear hk); (try clear hi)))
  go_ret
  exact ⟨by first | rfl | (simp [errW_none, errW_some] <;> rfl) | (simp [*, errW_none, errW_some] <;> rfl), by repeat (first | (with_reducible first | exact HB.out | apply below_alloc | apply pw_below_drewN | apply below_drew1 | refine below_set ?_ GE107.out) | exact HB.out)⟩
end Go.Proofs.YthapikakneikbaaG
namespace Go.Proofs.YthapikakneikbaaG
open Go.RowKit Go.Proofs.YthapikakneikbaaW.PrintWords Go.Proofs.YthapikakneikbaaW.PrintLast Go.Proofs.YthapikakneikbaaW.PrintMore
attribute [local go_sem] max2_int min2_int max_two min_two max_three min_three max_four min_four   -- for this text's walks alone
set_option linter.unusedVariables false
set_option linter.unusedSimpArgs false
/-! ### ring_differ: function 82 -/
def ring_differ.l0 : Nat → List (List Int) → Int → Int → Option (Int)
 | 0, _, _, _ => none
 | k + 1, x0, x3, x4 => if x4 < (x0.length : Int) then (if 0 ≤ x4 then (if 0 < ((rd_L3 x0 x4).length : Int) then (if 0 ≤ (wrap64 (x4 - 1)) then (if (wrap64 (x4 - 1)) < (x0.length : Int) then (if 0 < ((rd_L3 x0 (wrap64 (x4 - 1))).length : Int) then (if (rd (rd_L3 x0 x4) 0) = (rd (rd_L3 x0 (wrap64 (x4 - 1))) 0) then (ring_differ.l0 k x0 x3 (wrap64 (x4 + 1))) else (ring_differ.l0 k x0 (wrap64 (x3 + 1)) (wrap64 (x4 + 1)))) else (none)) else (none)) else (none)) else (none)) else (none)) else (some x3)
def ring_differ.f (k : Nat) (l0 : List (List Int)) : Option (Int) := ring_differ.l0 k l0 0 1
theorem ring_differ.mono_l : ∀ k, (∀ y0 y1 y2, LeO (ring_differ.l0 k y0 y1 y2) (ring_differ.l0 (k + 1) y0 y1 y2))
 | 0 => fun _ _ _ r h => by simp [ring_differ.l0] at h
 | k + 1 => by
  have ih0 := ring_differ.mono_l k
  ·
   intro y0 y1 y2
   unfold ring_differ.l0
   repeat' first
   | (with_reducible exact ih0 _ _ _)
   | (with_reducible exact LeO.refl _)
   | (with_reducible exact LeO.none _)
   | (with_reducible refine LeO.ite ?_ ?_)
   | (with_reducible refine LeO.bind ?_ (fun _ => ?_))
   | exact ih0 _ _ _
   | exact LeO.none _
   | refine LeO.ite ?_ ?_
   | refine LeO.bind ?_ (fun _ => ?_)
theorem ring_differ.mono : ∀ a0 k, LeO (ring_differ.f k a0) (ring_differ.f (k + 1) a0) := by
 intro a0 k
 have ih0 := ring_differ.mono_l k
 unfold ring_differ.f
 repeat' first
   | (with_reducible exact ih0 _ _ _)
   | (with_reducible exact LeO.refl _)
   | (with_reducible exact LeO.none _)
   | (with_reducible refine LeO.ite ?_ ?_)
   | (with_reducible refine LeO.bind ?_ (fun _ => ?_))
   | exact ih0 _ _ _
   | exact LeO.none _
   | refine LeO.ite ?_ ?_
   | refine LeO.bind ?_ (fun _ => ?_)
set_option maxHeartbeats 8000000 in
set_option maxRecDepth 100000 in
theorem ring_differ.calls (k : Nat) (A0 : Option Addr) (c0 : Nat) (l0 : List (List Int)) (r : Int) (w : World) (hr0 : Kd.C (Kd.slice 3 (Kd.int .i64)) w A0 l0.length l0) (hc0 : l0.length ≤ c0) (h : ring_differ.f k l0 = some r) :
  Calls Try.prog 82 #[.slice A0 l0.length c0] w fun e w' => e = .returned (.int .i64 r) ∧ Drawn0 w w' := by
 have HR0 := Aside0.mk hr0
 have HC0 := Aside0.mk hc0
 clear hr0 hc0
 have H : (ring_differ.l0 k l0 0 1) = some r := h
 clear h
 have H' := Aside0.mk H
 clear H
 go_enter Try.func82, Try.ntmps82
 go_wp2
 repeat (go_quiet (fail); try go_wp2)
 go_loopg [3, 4] k (fun kq v3 v4 w' => ∃ (x3_1 : Int) (x4_1 : Int), v3 = .int .i64 x3_1 ∧ v4 = .int .i64 x4_1 ∧ Aside0 (ring_differ.l0 kq l0 x3_1 x4_1 = some r) ∧ Aside0 (kq ≤ k) ∧ Drawn0 w w')
 case atStart => exact ⟨(0), (1), (by first | rfl | (simp; done) | (simp [*]; done)), (by first | rfl | (simp; done) | (simp [*]; done)), H', ⟨Nat.le_refl _⟩, by repeat (first | exact Drawn0.refl _ | apply Drawn0.step)⟩
 case round =>
  clear H'
  obtain ⟨x3_1, x4_1, rfl, rfl, HA, HK1, ⟨m1, rfl⟩⟩ := hrel
  cases gk with
  | zero => exact absurd HA.out (by simp [ring_differ.l0])
  | succ k1 =>
   have H := HA.out
   clear HA
   simp only [ring_differ.l0] at H
   by_cases c2 : x4_1 < (l0.length : Int)
   ·
    rw [if_pos c2] at H
    have c2b0 : decide (x4_1 < (l0.length : Int)) = true := decide_eq_true c2
    clear c2
    by_cases c3 : 0 ≤ x4_1
    ·
     rw [if_pos c3] at H
     have c3b0 : decide (0 ≤ x4_1) = true := decide_eq_true c3
     clear c3
     by_cases c4 : 0 < ((rd_L3 l0 x4_1).length : Int)
     ·
      rw [if_pos c4] at H
      have c4b0 : decide (0 < ((rd_L3 l0 x4_1).length : Int)) = true := decide_eq_true c4
      have c4b1 : decide (0 < (rd_L3 l0 x4_1).length) = true := decide_eq_true (by omega)
      clear c4
      obtain ⟨ji5, hji5⟩ : ∃ j_ : Int, (wrap64 (x4_1 - 1)) = j_ := ⟨_, rfl⟩
      replace H : (if 0 ≤ (ji5) then (if (ji5) < (l0.length : Int) then (if 0 < ((rd_L3 l0 (ji5)).length : Int) then (if (rd (rd_L3 l0 x4_1) 0) = (rd (rd_L3 l0 (ji5)) 0) then (ring_differ.l0 k1 l0 x3_1 (wrap64 (x4_1 + 1))) else (ring_differ.l0 k1 l0 (wrap64 (x3_1 + 1)) (wrap64 (x4_1 + 1)))) else (none)) else (none)) else (none)) = some r := by first | (rw [hji5] at H; exact H) | (simp only [hji5] at H ⊢; exact H)
      have hji5w : (IntKind.i64.wrap (x4_1 - 1)) = ji5 := (i64_w _).trans hji5
      by_cases c6 : 0 ≤ (ji5)
      ·
       rw [if_pos c6] at H
       have c6b0 : decide (0 ≤ (ji5)) = true := decide_eq_true c6
       clear c6
       by_cases c7 : (ji5) < (l0.length : Int)
       ·
        rw [if_pos c7] at H
        have c7b0 : decide ((ji5) < (l0.length : Int)) = true := decide_eq_true c7
        clear c7
        by_cases c8 : 0 < ((rd_L3 l0 (ji5)).length : Int)
        ·
         rw [if_pos c8] at H
         have c8b0 : decide (0 < ((rd_L3 l0 (ji5)).length : Int)) = true := decide_eq_true c8
         have c8b1 : decide (0 < (rd_L3 l0 (ji5)).length) = true := decide_eq_true (by omega)
         clear c8
         by_cases c9 : (rd (rd_L3 l0 x4_1) 0) = (rd (rd_L3 l0 (ji5)) 0)
         ·
          rw [if_pos c9] at H
          have c9b0 : ((rd (rd_L3 l0 x4_1) 0) == (rd (rd_L3 l0 (ji5)) 0)) = true := beq_iff_eq.mpr c9
          have c9b1 : ((rd (rd_L3 l0 x4_1) 0) != (rd (rd_L3 l0 (ji5)) 0)) = false := bne_eq_false_iff_eq.mpr c9
          clear c9
          have H' := Aside0.mk H
          clear H
          have p113 : 0 ≤ (x4_1 : Int) := of_decide_eq_true (by first | (with_reducible assumption) | assumption)
          have q113 : x4_1 < (l0.length : Int) := of_decide_eq_true (by first | (with_reducible assumption) | assumption)
          obtain ⟨ad113, A113_0, c113_0, e113, hx113_0, hl113_0, hi113_0⟩ := at_L3 HR0.out x4_1 p113 q113
          cases e113
          have HR113_0 := Aside0.mk hi113_0
          have HC113_0 := Aside0.mk hl113_0
          clear hi113_0 hl113_0
          replace p113 := eq_true p113
          replace q113 := eq_true q113
          have p114 : 0 ≤ (0 : Int) := (by omega)
          have q114 : 0 < ((rd_L3 l0 x4_1).length : Int) := of_decide_eq_true (by first | (with_reducible assumption) | assumption)
          obtain ⟨ad114, e114, hx114_0⟩ := Kd.at_int HR113_0.out 0 p114 q114
          cases e114
          have qi114 : (0 < (rd_L3 l0 x4_1).length) = True := eq_true (by omega)
          (try rw [show ((0 : Int)).toNat = 0 from rfl] at hx114_0)
          (try rw [Addr.add_zero'] at hx114_0)
          replace p114 := eq_true p114
          replace q114 := eq_true q114
          have p115 : 0 ≤ ((ji5) : Int) := of_decide_eq_true (by first | (with_reducible assumption) | assumption)
          have q115 : (ji5) < (l0.length : Int) := of_decide_eq_true (by first | (with_reducible assumption) | assumption)
          obtain ⟨ad115, A115_0, c115_0, e115, hx115_0, hl115_0, hi115_0⟩ := at_L3 HR0.out (ji5) p115 q115
          obtain rfl : ad113 = ad115 := (by injection e115)
          have HR115_0 := Aside0.mk hi115_0
          have HC115_0 := Aside0.mk hl115_0
          clear hi115_0 hl115_0
          replace p115 := eq_true p115
          replace q115 := eq_true q115
          have p116 : 0 ≤ (0 : Int) := (by omega)
          have q116 : 0 < ((rd_L3 l0 (ji5)).length : Int) := of_decide_eq_true (by first | (with_reducible assumption) | assumption)
          obtain ⟨ad116, e116, hx116_0⟩ := Kd.at_int HR115_0.out 0 p116 q116
          cases e116
          have qi116 : (0 < (rd_L3 l0 (ji5)).length) = True := eq_true (by omega)
          (try rw [show ((0 : Int)).toNat = 0 from rfl] at hx116_0)
          (try rw [Addr.add_zero'] at hx116_0)
          replace p116 := eq_true p116
          replace q116 := eq_true q116
          go_wp2
          repeat (go_quiet (fail); try go_wp2)
          go_roundg k1
          case measure => have := HK1.out; omega
          case rel => exact ⟨(x3_1), (wrap64 (x4_1 + 1)), (by first | rfl | (simp; done) | (simp [*]; done)), (by first | rfl | (simp; done) | (simp [*]; done)), H', ⟨by have := HK1.out; omega⟩, by repeat (first | exact Drawn0.refl _ | apply Drawn0.step)⟩
         ·
          rw [if_neg c9] at H
          have c9b0 : ((rd (rd_L3 l0 x4_1) 0) == (rd (rd_L3 l0 (ji5)) 0)) = false := beq_eq_false_iff_ne.mpr c9
          have c9b1 : ((rd (rd_L3 l0 x4_1) 0) != (rd (rd_L3 l0 (ji5)) 0)) = true := bne_iff_ne.mpr c9
          have H' := Aside0.mk H
          clear H
          have p113 : 0 ≤ (x4_1 : Int) := of_decide_eq_true (by first | (with_reducible assumption) | assumption)
          have q113 : x4_1 < (l0.length : Int) := of_decide_eq_true (by first | (with_reducible assumption) | assumption)
          obtain ⟨ad113, A113_0, c113_0, e113, hx113_0, hl113_0, hi113_0⟩ := at_L3 HR0.out x4_1 p113 q113
          cases e113
          have HR113_0 := Aside0.mk hi113_0
          have HC113_0 := Aside0.mk hl113_0
          clear hi113_0 hl113_0
          replace p113 := eq_true p113
          replace q113 := eq_true q113
          have p114 : 0 ≤ (0 : Int) := (by omega)
          have q114 : 0 < ((rd_L3 l0 x4_1).length : Int) := of_decide_eq_true (by first | (with_reducible assumption) | assumption)
          obtain ⟨ad114, e114, hx114_0⟩ := Kd.at_int HR113_0.out 0 p114 q114
          cases e114
          have qi114 : (0 < (rd_L3 l0 x4_1).length) = True := eq_true (by omega)
          (try rw [show ((0 : Int)).toNat = 0 from rfl] at hx114_0)
          (try rw [Addr.add_zero'] at hx114_0)
          replace p114 := eq_true p114
          replace q114 := eq_true q114
          have p115 : 0 ≤ ((ji5) : Int) := of_decide_eq_true (by first | (with_reducible assumption) | assumption)
          have q115 : (ji5) < (l0.length : Int) := of_decide_eq_true (by first | (with_reducible assumption) | assumption)
          obtain ⟨ad115, A115_0, c115_0, e115, hx115_0, hl115_0, hi115_0⟩ := at_L3 HR0.out (ji5) p115 q115
          obtain rfl : ad113 = ad115 := (by injection e115)
          have HR115_0 := Aside0.mk hi115_0
          have HC115_0 := Aside0.mk hl115_0
          clear hi115_0 hl115_0
          replace p115 := eq_true p115
          replace q115 := eq_true q115
          have p116 : 0 ≤ (0 : Int) := (by omega)
          have q116 : 0 < ((rd_L3 l0 (ji5)).length : Int) := of_decide_eq_true (by first | (with_reducible assumption) | assumption)
          obtain ⟨ad116, e116, hx116_0⟩ := Kd.at_int HR115_0.out 0 p116 q116
          cases e116
          have qi116 : (0 < (rd_L3 l0 (ji5)).length) = True := eq_true (by omega)
          (try rw [show ((0 : Int)).toNat = 0 from rfl] at hx116_0)
          (try rw [Addr.add_zero'] at hx116_0)
          replace p116 := eq_true p116
          replace q116 := eq_true q116
          go_wp2
          repeat (go_quiet (fail); try go_wp2)
          go_roundg k1
          case measure => have := HK1.out; omega
          case rel => exact ⟨(wrap64 (x3_1 + 1)), (wrap64 (x4_1 + 1)), (by first | rfl | (simp; done) | (simp [*]; done)), (by first | rfl | (simp; done) | (simp [*]; done)), H', ⟨by have := HK1.out; omega⟩, by repeat (first | exact Drawn0.refl _ | apply Drawn0.step)⟩
        ·
         rw [if_neg c8] at H
         exact absurd H (by simp)
       ·
        rw [if_neg c7] at H
        exact absurd H (by simp)
      ·
       rw [if_neg c6] at H
       exact absurd H (by simp)
     ·
      rw [if_neg c4] at H
      exact absurd H (by simp)
    ·
     rw [if_neg c3] at H
     exact absurd H (by simp)
   ·
    rw [if_neg c2] at H
    have c2b0 : decide (x4_1 < (l0.length : Int)) = false := decide_eq_false c2
    clear c2
    obtain rfl := Option.some.inj H
    go_wp2
    repeat (go_quiet (fail); try go_wp2)
    go_ret
    exact ⟨by first | rfl | (simp; done) | (simp [*]; done), by repeat (first | exact Drawn0.refl _ | apply Drawn0.step)⟩
end Go.Proofs.YthapikakneikbaaG
namespace Go.Proofs.YthapikakneikbaaG
open Go.RowKit Go.Proofs.YthapikakneikbaaW.PrintWords Go.Proofs.YthapikakneikbaaW.PrintLast Go.Proofs.YthapikakneikbaaW.PrintMore
attribute [local go_sem] max2_int min2_int max_two min_two max_three min_three max_four min_four   -- for this text's walks alone
set_option linter.unusedVariables false
set_option linter.unusedSimpArgs false
/-! ### ring_Legit: function 23 -/
def ring_Legit.f (k : Nat) (l0_0 : List Int) (l0_1 : List (List (S60))) (l1 : List (List Int)) : Option (Bool) := (ring_configuration.f k l0_0 l0_1 l1).bind fun t118 => (if t118 = true then ((ring_differ.f k l1).bind fun t119 => (some (decide (t119 ≤ 1)))) else (some false))
theorem ring_Legit.mono : ∀ a0 a1 a2 k, LeO (ring_Legit.f k a0 a1 a2) (ring_Legit.f (k + 1) a0 a1 a2) := by
 intro a0 a1 a2 k
 unfold ring_Legit.f
 repeat' first
   | (with_reducible exact ring_configuration.mono _ _ _ _)
   | (with_reducible exact ring_differ.mono _ _)
   | (with_reducible exact LeO.refl _)
   | (with_reducible exact LeO.none _)
   | (with_reducible refine LeO.ite ?_ ?_)
   | (with_reducible refine LeO.bind ?_ (fun _ => ?_))
   | exact ring_configuration.mono _ _ _ _
   | exact ring_differ.mono _ _
   | exact LeO.none _
   | refine LeO.ite ?_ ?_
   | refine LeO.bind ?_ (fun _ => ?_)
set_option maxHeartbeats 8000000 in
set_option maxRecDepth 100000 in
theorem ring_Legit.calls (k : Nat) (A0_0 : Option Addr) (c0_0 : Nat) (l0_0 : List Int) (A0_1 : Option Addr) (c0_1 : Nat) (l0_1 : List (List (S60))) (A1 : Option Addr) (c1 : Nat) (l1 : List (List Int)) (r : Bool) (w : World) (hr0_0 : Kd.C (Kd.int .i64) w A0_0 l0_0.length l0_0) (hc0_0 : l0_0.length ≤ c0_0) (hr0_1 : Kd.C (Kd.slice 60 k60) w A0_1 l0_1.length l0_1) (hc0_1 : l0_1.length ≤ c0_1) (hr1 : Kd.C (Kd.slice 3 (Kd.int .i64)) w A1 l1.length l1) (hc1 : l1.length ≤ c1) (h : ring_Legit.f k l0_0 l0_1 l1 = some r) :
  Calls Try.prog 23 #[.agg #[.slice A0_0 l0_0.length c0_0, .slice A0_1 l0_1.length c0_1], .slice A1 l1.length c1] w fun e w' => e = .returned (.bool r) ∧ Below w.heap.size w w' := by
 have hu27 := Try.underlying27
 have HR0_0 := Aside0.mk hr0_0
 have HC0_0 := Aside0.mk hc0_0
 clear hr0_0 hc0_0
 have HR0_1 := Aside0.mk hr0_1
 have HC0_1 := Aside0.mk hc0_1
 clear hr0_1 hc0_1
 have HR1 := Aside0.mk hr1
 have HC1 := Aside0.mk hc1
 clear hr1 hc1
 have HB := Aside0.mk (Below.refl w.heap.size w)
 have H : ((ring_configuration.f k l0_0 l0_1 l1).bind fun t118 => (if t118 = true then ((ring_differ.f k l1).bind fun t119 => (some (decide (t119 ≤ 1)))) else (some false))) = some r := h
 clear h
 replace H := Option.bind_eq_some_iff.mp H
 obtain ⟨t118, A30, H⟩ := H
 replace H : (if t118 = true then ((ring_differ.f k l1).bind fun t119 => (some (decide (t119 ≤ 1)))) else (some false)) = some r := H
 have A3 := Aside0.mk A30
 clear A30
 by_cases c4 : t118 = true
 ·
  subst c4
  have H1 : ((ring_differ.f k l1).bind fun t119 => (some (decide (t119 ≤ 1)))) = some r := by rw [if_pos rfl] at H; exact H
  clear H
  have H := H1
  clear H1
  replace H := Option.bind_eq_some_iff.mp H
  obtain ⟨t119, A50, H⟩ := H
  replace H : (some (decide (t119 ≤ 1))) = some r := H
  have A5 := Aside0.mk A50
  clear A50
  obtain rfl := Option.some.inj H
  go_enter Try.func23, Try.ntmps23
  go_wp2_with (first | ((with_reducible refine gate_dst (N := 2) rfl ?_); refine box_event ?hg (N := 2) ?hd (cs := #[.slice A0_0 l0_0.length c0_0, .slice A0_1 l0_1.length c0_1]) (t := 27) ?hr ?_; (case hd => rfl); (case hg => rfl); (case hr => first | (go_simp; done) | (go_simp; rfl)); intro gb117 hg w6 hbox hb; have n0_ := Aside0.mk (below_step (by repeat (first | (with_reducible first | exact HB.out | apply below_alloc | apply pw_below_drewN | apply below_drew1) | exact HB.out)) hb); have n1_ := Aside0.mk (hbox); have n2_ := Aside0.mk ((by rw [hg]; exact (below_size (by repeat (first | (with_reducible first | exact HB.out | apply below_alloc | apply pw_below_drewN | apply below_drew1) | exact HB.out))) : w.heap.size ≤ gb117)); have n3_ := Aside0.mk ((by rw [hg]; exact (below_size (by repeat (first | (with_reducible first | exact HB.out | apply below_alloc | apply pw_below_drewN | apply below_drew1) | exact HB.out))) : w.heap.size ≤ gb117)); clear HB; have HB := n0_; have BK117 := n1_; have GW117 := n2_; have GE117 := n3_; clear n0_ n1_ n2_ n3_; clear hb hbox hg; have hcz7_0 : w6.cell? ⟨gb117, 0, none⟩ = some (.slice A0_0 l0_0.length c0_0) := (blk_cell BK117.out 0).trans rfl; have hcz7_1 : w6.cell? ⟨gb117, 1, none⟩ = some (.slice A0_1 l0_1.length c0_1) := (blk_cell BK117.out 1).trans rfl; have hfz7_0 := blk_frozen BK117.out 0; have hfz7_1 := blk_frozen BK117.out 1) | ((with_reducible refine gate_callee (f := 81) rfl ?_); refine goesL_ (some 7) rfl rfl Try.func81 (by kernel_rfl) rfl #[.agg #[.slice A0_0 l0_0.length c0_0, .slice A0_1 l0_1.length c0_1], .slice A1 l1.length c1] rfl (by (try simp only [List.map_toArray, List.map_cons, List.map_nil]); first | done | rfl | (simp only [List.length_drop, List.length_take]; rfl)) ?_; (with_reducible refine (ring_configuration.calls k _ _ l0_0 _ _ l0_1 _ _ l1 true _ ?side1 ?side2 ?side3 ?side4 ?side5 ?side6 A3.out).mono ?_); (case side1 => repeat (first | exact (Kd.C_below HR0_0.out HB.out) | (with_reducible refine Kd.C_alloc ?_ _) | (with_reducible refine Kd.C_drewN ?_ _) | (with_reducible refine Kd.C_drew ?_))); (case side2 => exact HC0_0.out); (case side3 => repeat (first | exact (Kd.C_below HR0_1.out HB.out) | (with_reducible refine Kd.C_alloc ?_ _) | (with_reducible refine Kd.C_drewN ?_ _) | (with_reducible refine Kd.C_drew ?_))); (case side4 => exact HC0_1.out); (case side5 => repeat (first | exact (Kd.C_below HR1.out HB.out) | (with_reducible refine Kd.C_alloc ?_ _) | (with_reducible refine Kd.C_drewN ?_ _) | (with_reducible refine Kd.C_drew ?_))); (case side6 => exact HC1.out); rintro e w8 ⟨rfl, hb⟩; refine ⟨_, rfl, ?_⟩; have n0_ := Aside0.mk (blk_below (g := gb117) (o := .cells #[.slice A0_0 l0_0.length c0_0, .slice A0_1 l0_1.length c0_1] 27 (0, 0)) (by (with_reducible repeat (first | refine blk_drewN ?_ _ | refine blk_drew ?_ | refine blk_alloc ?_ _)); exact BK117.out) hb); have n1_ := Aside0.mk (below_step (by repeat (first | (with_reducible first | exact HB.out | apply below_alloc | apply pw_below_drewN | apply below_drew1 | refine below_set ?_ GE117.out) | exact HB.out)) hb); clear BK117; clear HB; have BK117 := n0_; have HB := n1_; clear n0_ n1_; (try clear hb); (try clear hb2); (try clear hk); (try clear hi)) | (go_at_call 82; (with_reducible refine (ring_differ.calls k _ _ l1 t119 _ ?side1 ?side2 A5.out).mono ?_); (case side1 => repeat (first | exact (Kd.C_below HR1.out HB.out) | (with_reducible refine Kd.C_alloc ?_ _) | (with_reducible refine Kd.C_drewN ?_ _) | (with_reducible refine Kd.C_drew ?_))); (case side2 => exact HC1.out); rintro e w' ⟨rfl, ⟨nd, rfl⟩⟩))
  go_ret
  exact ⟨by first | rfl | (simp [errW_none, errW_some] <;> rfl) | (simp [*, errW_none, errW_some] <;> rfl), by repeat (first | (with_reducible first | exact HB.out | apply below_alloc | apply pw_below_drewN | apply below_drew1 | refine below_set ?_ GE117.out) | exact HB.out)⟩
 ·
  replace c4 := Bool.eq_false_iff.mpr c4
  subst c4
  have H1 : (some false) = some r := by rw [if_neg (show ¬ (false = true) by decide)] at H; exact H
  clear H
  have H := H1
  clear H1
  obtain rfl := Option.some.inj H
  go_enter Try.func23, Try.ntmps23
  go_wp2_with (first | ((with_reducible refine gate_dst (N := 2) rfl ?_); refine box_event ?hg (N := 2) ?hd (cs := #[.slice A0_0 l0_0.length c0_0, .slice A0_1 l0_1.length c0_1]) (t := 27) ?hr ?_; (case hd => rfl); (case hg => rfl); (case hr => first | (go_simp; done) | (go_simp; rfl)); intro gb117 hg w9 hbox hb; have n0_ := Aside0.mk (below_step (by repeat (first | (with_reducible first | exact HB.out | apply below_alloc | apply pw_below_drewN | apply below_drew1) | exact HB.out)) hb); have n1_ := Aside0.mk (hbox); have n2_ := Aside0.mk ((by rw [hg]; exact (below_size (by repeat (first | (with_reducible first | exact HB.out | apply below_alloc | apply pw_below_drewN | apply below_drew1) | exact HB.out))) : w.heap.size ≤ gb117)); have n3_ := Aside0.mk ((by rw [hg]; exact (below_size (by repeat (first | (with_reducible first | exact HB.out | apply below_alloc | apply pw_below_drewN | apply below_drew1) | exact HB.out))) : w.heap.size ≤ gb117)); clear HB; have HB := n0_; have BK117 := n1_; have GW117 := n2_; have GE117 := n3_; clear n0_ n1_ n2_ n3_; clear hb hbox hg; have hcz10_0 : w9.cell? ⟨gb117, 0, none⟩ = some (.slice A0_0 l0_0.length c0_0) := (blk_cell BK117.out 0).trans rfl; have hcz10_1 : w9.cell? ⟨gb117, 1, none⟩ = some (.slice A0_1 l0_1.length c0_1) := (blk_cell BK117.out 1).trans rfl; have hfz10_0 := blk_frozen BK117.out 0; have hfz10_1 := blk_frozen BK117.out 1) | ((with_reducible refine gate_callee (f := 81) rfl ?_); refine goesL_ (some 7) rfl rfl Try.func81 (by kernel_rfl) rfl #[.agg #[.slice A0_0 l0_0.length c0_0, .slice A0_1 l0_1.length c0_1], .slice A1 l1.length c1] rfl (by (try simp only [List.map_toArray, List.map_cons, List.map_nil]); first | done | rfl | (simp only [List.length_drop, List.length_take]; rfl)) ?_; (with_reducible refine (ring_configuration.calls k _ _ l0_0 _ _ l0_1 _ _ l1 false _ ?side1 ?side2 ?side3 ?side4 ?side5 ?side6 A3.out).mono ?_); (case side1 => repeat (first | exact (Kd.C_below HR0_0.out HB.out) | (with_reducible refine Kd.C_alloc ?_ _) | (with_reducible refine Kd.C_drewN ?_ _) | (with_reducible refine Kd.C_drew ?_))); (case side2 => exact HC0_0.out); (case side3 => repeat (first | exact (Kd.C_below HR0_1.out HB.out) | (with_reducible refine Kd.C_alloc ?_ _) | (with_reducible refine Kd.C_drewN ?_ _) | (with_reducible refine Kd.C_drew ?_))); (case side4 => exact HC0_1.out); (case side5 => repeat (first | exact (Kd.C_below HR1.out HB.out) | (with_reducible refine Kd.C_alloc ?_ _) | (with_reducible refine Kd.C_drewN ?_ _) | (with_reducible refine Kd.C_drew ?_))); (case side6 => exact HC1.out); rintro e w11 ⟨rfl, hb⟩; refine ⟨_, rfl, ?_⟩; have n0_ := Aside0.mk (blk_below (g := gb117) (o := .cells #[.slice A0_0 l0_0.length c0_0, .slice A0_1 l0_1.length c0_1] 27 (0, 0)) (by (with_reducible repeat (first | refine blk_drewN ?_ _ | refine blk_drew ?_ | refine blk_alloc ?_ _)); exact BK117.out) hb); have n1_ := Aside0.mk (below_step (by repeat (first | (with_reducible first | exact HB.out | apply below_alloc | apply pw_below_drewN | apply below_drew1 | refine below_set ?_ GE117.out) | exact HB.out)) hb); clear BK117; clear HB; have BK117 := n0_; have HB := n1_; clear n0_ n1_; (try clear hb); (try clear hb2); (try clear hk); (try clear hi)))
  go_ret
  exact ⟨by first | rfl | (simp [errW_none, errW_some] <;> rfl) | (simp [*, errW_none, errW_some] <;> rfl), by repeat (first | (with_reducible first | exact HB.out | apply below_alloc | apply pw_below_drewN | apply below_drew1 | refine below_set ?_ GE117.out) | exact HB.out)⟩
end Go.Proofs.YthapikakneikbaaG
namespace Go.Proofs.YthapikakneikbaaG
open Go.RowKit Go.Proofs.YthapikakneikbaaW.PrintWords Go.Proofs.YthapikakneikbaaW.PrintLast Go.Proofs.YthapikakneikbaaW.PrintMore
attribute [local go_sem] max2_int min2_int max_two min_two max_three min_three max_four min_four   -- for this text's walks alone
set_option linter.unusedVariables false
set_option linter.unusedSimpArgs false
/-! ### ring_Privileged: function 27 -/
def ring_Privileged.l0 : Nat → List (List Int) → Int → Int → Int → Option (Int)
 | 0, _, _, _, _ => none
 | k + 1, x1, x5, x13, x14 => if x14 < x13 then (if (x1.length : Int) = 0 then (none) else (if 0 ≤ (Int.tmod (wrap64 ((wrap64 (x14 + (x1.length : Int))) - 1)) (x1.length : Int)) then (if (Int.tmod (wrap64 ((wrap64 (x14 + (x1.length : Int))) - 1)) (x1.length : Int)) < (x1.length : Int) then (if 0 < ((rd_L3 x1 (Int.tmod (wrap64 ((wrap64 (x14 + (x1.length : Int))) - 1)) (x1.length : Int))).length : Int) then (if 0 ≤ x14 then (if x14 < (x1.length : Int) then (if 0 < ((rd_L3 x1 x14).length : Int) then (if (((rd (rd_L3 x1 x14) 0) == (rd (rd_L3 x1 (Int.tmod (wrap64 ((wrap64 (x14 + (x1.length : Int))) - 1)) (x1.length : Int))) 0)) == (x14 == 0)) = true then (ring_Privileged.l0 k x1 (Go.bits .or .u32 x5 (shl .u32 1 x14)) x13 (wrap64 (x14 + 1))) else (ring_Privileged.l0 k x1 x5 x13 (wrap64 (x14 + 1)))) else (none)) else (none)) else (none)) else (none)) else (none)) else (none))) else (some x5)
def ring_Privileged.f (k : Nat) (l0_0 : List Int) (l0_1 : List (List (S60))) (l1 : List (List Int)) : Option (Int) := (ring_configuration.f k l0_0 l0_1 l1).bind fun t121 => (if t121 = true then (ring_Privileged.l0 k l1 0 (l1.length : Int) 0) else (some 0))
theorem ring_Privileged.mono_l : ∀ k, (∀ y0 y1 y2 y3, LeO (ring_Privileged.l0 k y0 y1 y2 y3) (ring_Privileged.l0 (k + 1) y0 y1 y2 y3))
 | 0 => fun _ _ _ _ r h => by simp [ring_Privileged.l0] at h
 | k + 1 => by
  have ih0 := ring_Privileged.mono_l k
  ·
   intro y0 y1 y2 y3
   unfold ring_Privileged.l0
   repeat' first
   | (with_reducible exact ih0 _ _ _ _)
   | (with_reducible exact ring_configuration.mono _ _ _ _)
   | (with_reducible exact LeO.refl _)
   | (with_reducible exact LeO.none _)
   | (with_reducible refine LeO.ite ?_ ?_)
   | (with_reducible refine LeO.bind ?_ (fun _ => ?_))
   | exact ih0 _ _ _ _
   | exact ring_configuration.mono _ _ _ _
   | exact LeO.none _
   | refine LeO.ite ?_ ?_
   | refine LeO.bind ?_ (fun _ => ?_)
theorem ring_Privileged.mono : ∀ a0 a1 a2 k, LeO (ring_Privileged.f k a0 a1 a2) (ring_Privileged.f (k + 1) a0 a1 a2) := by
 intro a0 a1 a2 k
 have ih0 := ring_Privileged.mono_l k
 unfold ring_Privileged.f
 repeat' first
   | (with_reducible exact ih0 _ _ _ _)
   | (with_reducible exact ring_configuration.mono _ _ _ _)
   | (with_reducible exact LeO.refl _)
   | (with_reducible exact LeO.none _)
   | (with_reducible refine LeO.ite ?_ ?_)
   | (with_reducible refine LeO.bind ?_ (fun _ => ?_))
   | exact ih0 _ _ _ _
   | exact ring_configuration.mono _ _ _ _
   | exact LeO.none _
   | refine LeO.ite ?_ ?_
   | refine LeO.bind ?_ (fun _ => ?_)
set_option maxHeartbeats 8000000 in
set_option maxRecDepth 100000 in
theorem ring_Privileged.calls (k : Nat) (A0_0 : Option Addr) (c0_0 : Nat) (l0_0 : List Int) (A0_1 : Option Addr) (c0_1 : Nat) (l0_1 : List (List (S60))) (A1 : Option Addr) (c1 : Nat) (l1 : List (List Int)) (r : Int) (w : World) (hr0_0 : Kd.C (Kd.int .i64) w A0_0 l0_0.length l0_0) (hc0_0 : l0_0.length ≤ c0_0) (hr0_1 : Kd.C (Kd.slice 60 k60) w A0_1 l0_1.length l0_1) (hc0_1 : l0_1.length ≤ c0_1) (hr1 : Kd.C (Kd.slice 3 (Kd.int .i64)) w A1 l1.length l1) (hc1 : l1.length ≤ c1) (h : ring_Privileged.f k l0_0 l0_1 l1 = some r) :
  Calls Try.prog 27 #[.agg #[.slice A0_0 l0_0.length c0_0, .slice A0_1 l0_1.length c0_1], .slice A1 l1.length c1] w fun e w' => e = .returned (.int .u32 r) ∧ Below w.heap.size w w' := by
 have hu27 := Try.underlying27
 have HR0_0 := Aside0.mk hr0_0
 have HC0_0 := Aside0.mk hc0_0
 clear hr0_0 hc0_0
 have HR0_1 := Aside0.mk hr0_1
 have HC0_1 := Aside0.mk hc0_1
 clear hr0_1 hc0_1
 have HR1 := Aside0.mk hr1
 have HC1 := Aside0.mk hc1
 clear hr1 hc1
 have HB := Aside0.mk (Below.refl w.heap.size w)
 have H : ((ring_configuration.f k l0_0 l0_1 l1).bind fun t121 => (if t121 = true then (ring_Privileged.l0 k l1 0 (l1.length : Int) 0) else (some 0))) = some r := h
 clear h
 replace H := Option.bind_eq_some_iff.mp H
 obtain ⟨t121, A30, H⟩ := H
 replace H : (if t121 = true then (ring_Privileged.l0 k l1 0 (l1.length : Int) 0) else (some 0)) = some r := H
 have A3 := Aside0.mk A30
 clear A30
 by_cases c4 : t121 = true
 ·
  subst c4
  have H1 : (ring_Privileged.l0 k l1 0 (l1.length : Int) 0) = some r := by rw [if_pos rfl] at H; exact H
  clear H
  have H := H1
  clear H1
  have H' := Aside0.mk H
  clear H
  go_enter Try.func27, Try.ntmps27
  go_wp2_with (first | ((with_reducible refine gate_dst (N := 2) rfl ?_); refine box_event ?hg (N := 2) ?hd (cs := #[.slice A0_0 l0_0.length c0_0, .slice A0_1 l0_1.length c0_1]) (t := 27) ?hr ?_; (case hd => rfl); (case hg => rfl); (case hr => first | (go_simp; done) | (go_simp; rfl)); intro gb120 hg w5 hbox hb; have n0_ := Aside0.mk (below_step (by repeat (first | (with_reducible first | exact HB.out | apply below_alloc | apply pw_below_drewN | apply below_drew1) | exact HB.out)) hb); have n1_ := Aside0.mk (hbox); have n2_ := Aside0.mk ((by rw [hg]; exact (below_size (by repeat (first | (with_reducible first | exact HB.out | apply below_alloc | apply pw_below_drewN | apply below_drew1) | exact HB.out))) : w.heap.size ≤ gb120)); have n3_ := Aside0.mk ((by rw [hg]; exact (below_size (by repeat (first | (with_reducible first | exact HB.out | apply below_alloc | apply pw_below_drewN | apply below_drew1) | exact HB.out))) : w.heap.size ≤ gb120)); clear HB; have HB := n0_; have BK120 := n1_; have GW120 := n2_; have GE120 := n3_; clear n0_ n1_ n2_ n3_; clear hb hbox hg; have hcz6_0 : w5.cell? ⟨gb120, 0, none⟩ = some (.slice A0_0 l0_0.length c0_0) := (blk_cell BK120.out 0).trans rfl; have hcz6_1 : w5.cell? ⟨gb120, 1, none⟩ = some (.slice A0_1 l0_1.length c0_1) := (blk_cell BK120.out 1).trans rfl; have hfz6_0 := blk_frozen BK120.out 0; have hfz6_1 := blk_frozen BK120.out 1) | ((with_reducible refine gate_callee (f := 81) rfl ?_); refine goesL_ (some 10) rfl rfl Try.func81 (by kernel_rfl) rfl #[.agg #[.slice A0_0 l0_0.length c0_0, .slice A0_1 l0_1.length c0_1], .slice A1 l1.length c1] rfl (by (try simp only [List.map_toArray, List.map_cons, List.map_nil]); first | done | rfl | (simp only [List.length_drop, List.length_take]; rfl)) ?_; (with_reducible refine (ring_configuration.calls k _ _ l0_0 _ _ l0_1 _ _ l1 true _ ?side1 ?side2 ?side3 ?side4 ?side5 ?side6 A3.out).mono ?_); (case side1 => repeat (first | exact (Kd.C_below HR0_0.out HB.out) | (with_reducible refine Kd.C_alloc ?_ _) | (with_reducible refine Kd.C_drewN ?_ _) | (with_reducible refine Kd.C_drew ?_))); (case side2 => exact HC0_0.out); (case side3 => repeat (first | exact (Kd.C_below HR0_1.out HB.out) | (with_reducible refine Kd.C_alloc ?_ _) | (with_reducible refine Kd.C_drewN ?_ _) | (with_reducible refine Kd.C_drew ?_))); (case side4 => exact HC0_1.out); (case side5 => repeat (first | exact (Kd.C_below HR1.out HB.out) | (with_reducible refine Kd.C_alloc ?_ _) | (with_reducible refine Kd.C_drewN ?_ _) | (with_reducible refine Kd.C_drew ?_))); (case side6 => exact HC1.out); rintro e w7 ⟨rfl, hb⟩; refine ⟨_, rfl, ?_⟩; have n0_ := Aside0.mk (blk_below (g := gb120) (o := .cells #[.slice A0_0 l0_0.length c0_0, .slice A0_1 l0_1.length c0_1] 27 (0, 0)) (by (with_reducible repeat (first | refine blk_drewN ?_ _ | refine blk_drew ?_ | refine blk_alloc ?_ _)); exact BK120.out) hb); have n1_ := Aside0.mk (below_step (by repeat (first | (with_reducible first | exact HB.out | apply below_alloc | apply pw_below_drewN | apply below_drew1 | refine below_set ?_ GE120.out) | exact HB.out)) hb); clear BK120; clear HB; have BK120 := n0_; have HB := n1_; clear n0_ n1_; (try clear hb); (try clear hb2); (try clear hk); (try clear hi)))
  go_loopg [5, 14] k (fun kq v5 v14 w' => ∃ (x5_1 : Int) (x14_1 : Int), v5 = .int .u32 x5_1 ∧ v14 = .int .i64 x14_1 ∧ Aside0 (ring_Privileged.l0 kq l1 x5_1 (l1.length : Int) x14_1 = some r) ∧ Aside0 (kq ≤ k) ∧ Aside0 (w'.heap[gb120]? = some (.cells #[(.slice A0_0 l0_0.length c0_0), (.slice A0_1 l0_1.length c0_1)] 27 (0, 0))) ∧ Aside0 (Below w.heap.size w w'))
  case atStart => exact ⟨(0), (0), (by first | rfl | (simp; done) | (simp [*]; done)), (by first | rfl | (simp; done) | (simp [*]; done)), H', ⟨Nat.le_refl _⟩, ⟨by (with_reducible repeat (first | refine blk_drewN ?_ _ | refine blk_drew ?_ | refine blk_alloc ?_ _)); exact BK120.out⟩, ⟨by repeat (first | (with_reducible first | exact HB.out | apply below_alloc | apply pw_below_drewN | apply below_drew1 | refine below_set ?_ GE120.out) | exact HB.out)⟩⟩
  case round =>
   clear H'
   try clear c1
   try clear c2
   try clear p2
   try clear c4
   try clear hcz6_0
   try clear hcz6_1
   try clear hfz6_0
   try clear hfz6_1
   obtain ⟨x5_1, x14_1, rfl, rfl, HA, HK1, BK120, HB⟩ := hrel
   cases gk with
   | zero => exact absurd HA.out (by simp [ring_Privileged.l0])
   | succ k1 =>
    have H := HA.out
    clear HA
    simp only [ring_Privileged.l0] at H
    by_cases c8 : x14_1 < (l1.length : Int)
    ·
     rw [if_pos c8] at H
     have c8b0 : decide (x14_1 < (l1.length : Int)) = true := decide_eq_true c8
     clear c8
     by_cases c9 : (l1.length : Int) = 0
     ·
      rw [if_pos c9] at H
      exact absurd H (by simp)
     ·
      rw [if_neg c9] at H
      have c9b0 : ((l1.length : Int) == 0) = false := beq_eq_false_iff_ne.mpr c9
      have c9b1 : ((l1.length : Int) != 0) = true := bne_iff_ne.mpr c9
      have c9b2 : ¬ (l1 = []) := fun h_ => c9 (by rw [h_]; rfl)
      obtain ⟨ji10, hji10⟩ : ∃ j_ : Int, (Int.tmod (wrap64 ((wrap64 (x14_1 + (l1.length : Int))) - 1)) (l1.length : Int)) = j_ := ⟨_, rfl⟩
      replace H : (if 0 ≤ (ji10) then (if (ji10) < (l1.length : Int) then (if 0 < ((rd_L3 l1 (ji10)).length : Int) then (if 0 ≤ x14_1 then (if x14_1 < (l1.length : Int) then (if 0 < ((rd_L3 l1 x14_1).length : Int) then (if (((rd (rd_L3 l1 x14_1) 0) == (rd (rd_L3 l1 (ji10)) 0)) == (x14_1 == 0)) = true then (ring_Privileged.l0 k1 l1 (Go.bits .or .u32 x5_1 (shl .u32 1 x14_1)) (l1.length : Int) (wrap64 (x14_1 + 1))) else (ring_Privileged.l0 k1 l1 x5_1 (l1.length : Int) (wrap64 (x14_1 + 1)))) else (none)) else (none)) else (none)) else (none)) else (none)) else (none)) = some r := by first | (rw [hji10] at H; exact H) | (simp only [hji10] at H ⊢; exact H)
      by_cases c11 : 0 ≤ (ji10)
      ·
       rw [if_pos c11] at H
       have c11b0 : decide (0 ≤ (ji10)) = true := decide_eq_true c11
       clear c11
       by_cases c12 : (ji10) < (l1.length : Int)
       ·
        rw [if_pos c12] at H
        have c12b0 : decide ((ji10) < (l1.length : Int)) = true := decide_eq_true c12
        clear c12
        by_cases c13 : 0 < ((rd_L3 l1 (ji10)).length : Int)
        ·
         rw [if_pos c13] at H
         have c13b0 : decide (0 < ((rd_L3 l1 (ji10)).length : Int)) = true := decide_eq_true c13
         have c13b1 : decide (0 < (rd_L3 l1 (ji10)).length) = true := decide_eq_true (by omega)
         clear c13
         by_cases c14 : 0 ≤ x14_1
         ·
          rw [if_pos c14] at H
          have c14b0 : decide (0 ≤ x14_1) = true := decide_eq_true c14
          clear c14
          by_cases c15 : x14_1 < (l1.length : Int)
          ·
           rw [if_pos c15] at H
           have c15b0 : decide (x14_1 < (l1.length : Int)) = true := decide_eq_true c15
           clear c15
           by_cases c16 : 0 < ((rd_L3 l1 x14_1).length : Int)
           ·
            rw [if_pos c16] at H
            have c16b0 : decide (0 < ((rd_L3 l1 x14_1).length : Int)) = true := decide_eq_true c16
            have c16b1 : decide (0 < (rd_L3 l1 x14_1).length) = true := decide_eq_true (by omega)
            clear c16
            by_cases c17 : (((rd (rd_L3 l1 x14_1) 0) == (rd (rd_L3 l1 (ji10)) 0)) == (x14_1 == 0)) = true
            ·
             rw [if_pos c17] at H
             have c17b0 : (((rd (rd_L3 l1 x14_1) 0) == (rd (rd_L3 l1 (ji10)) 0)) == (x14_1 == 0)) = true := c17
             (try (have c17b1 : decide (((rd (rd_L3 l1 x14_1) 0) == (rd (rd_L3 l1 (ji10)) 0)) = (x14_1 == 0)) = true := by simpa using c17))
             (try (have c17b2 : (((rd (rd_L3 l1 x14_1) 0) == (rd (rd_L3 l1 (ji10)) 0)) == (x14_1 == 0)) = true := by simpa using c17))
             clear c17
             have c18b0 := eq_true (of_decide_eq_true (by first | (with_reducible assumption) | assumption) : 0 ≤ x14_1)
             obtain ⟨ji19, hji19⟩ : ∃ j_ : Int, (shl .u32 1 x14_1) = j_ := ⟨_, rfl⟩
             replace H : (ring_Privileged.l0 k1 l1 (Go.bits .or .u32 x5_1 (ji19)) (l1.length : Int) (wrap64 (x14_1 + 1))) = some r := by first | (rw [hji19] at H; exact H) | (simp only [hji19] at H ⊢; exact H)
             have hji19_ : (IntKind.u32.wrap (1 * 2 ^ min x14_1.toNat 32)) = ji19 := hji19
             have hji19z : x14_1 ≤ 32 → (IntKind.u32.wrap (1 * 2 ^ x14_1.toNat)) = ji19 := shl_small hji19
             have hji19u : (IntKind.u32.wrap (2 ^ min x14_1.toNat 32)) = ji19 := by have h_ := hji19_; rw [Int.one_mul] at h_; exact h_
             have hji19v : x14_1 ≤ 32 → (IntKind.u32.wrap (2 ^ x14_1.toNat)) = ji19 := fun hle_ => by have h_ := hji19z hle_; rw [Int.one_mul] at h_; exact h_
             have H' := Aside0.mk H
             clear H
             have p122 : 0 ≤ ((ji10) : Int) := of_decide_eq_true (by first | (with_reducible assumption) | assumption)
             have q122 : (ji10) < (l1.length : Int) := of_decide_eq_true (by first | (with_reducible assumption) | assumption)
             obtain ⟨ad122, A122_0, c122_0, e122, hx122_0, hl122_0, hi122_0⟩ := at_L3 HR1.out (ji10) p122 q122
             cases e122
             replace hx122_0 := (HB.out.cell (World.block_lt_of_cell? w _ hx122_0)).trans hx122_0
             have HR122_0 := Aside0.mk hi122_0
             have HC122_0 := Aside0.mk hl122_0
             clear hi122_0 hl122_0
             replace p122 := eq_true p122
             replace q122 := eq_true q122
             have p123 : 0 ≤ (0 : Int) := (by omega)
             have q123 : 0 < ((rd_L3 l1 (ji10)).length : Int) := of_decide_eq_true (by first | (with_reducible assumption) | assumption)
             obtain ⟨ad123, e123, hx123_0⟩ := Kd.at_int HR122_0.out 0 p123 q123
             cases e123
             have qi123 : (0 < (rd_L3 l1 (ji10)).length) = True := eq_true (by omega)
             (try rw [show ((0 : Int)).toNat = 0 from rfl] at hx123_0)
             (try rw [Addr.add_zero'] at hx123_0)
             replace hx123_0 := (HB.out.cell (World.block_lt_of_cell? w _ hx123_0)).trans hx123_0
             replace p123 := eq_true p123
             replace q123 := eq_true q123
             have p124 : 0 ≤ (x14_1 : Int) := of_decide_eq_true (by first | (with_reducible assumption) | assumption)
             have q124 : x14_1 < (l1.length : Int) := of_decide_eq_true (by first | (with_reducible assumption) | assumption)
             obtain ⟨ad124, A124_0, c124_0, e124, hx124_0, hl124_0, hi124_0⟩ := at_L3 HR1.out x14_1 p124 q124
             obtain rfl : ad122 = ad124 := (by injection e124)
             replace hx124_0 := (HB.out.cell (World.block_lt_of_cell? w _ hx124_0)).trans hx124_0
             have HR124_0 := Aside0.mk hi124_0
             have HC124_0 := Aside0.mk hl124_0
             clear hi124_0 hl124_0
             replace p124 := eq_true p124
             replace q124 := eq_true q124
             have p125 : 0 ≤ (0 : Int) := (by omega)
             have q125 : 0 < ((rd_L3 l1 x14_1).length : Int) := of_decide_eq_true (by first | (with_reducible assumption) | assumption)
             obtain ⟨ad125, e125, hx125_0⟩ := Kd.at_int HR124_0.out 0 p125 q125
             cases e125
             have qi125 : (0 < (rd_L3 l1 x14_1).length) = True := eq_true (by omega)
             (try rw [show ((0 : Int)).toNat = 0 from rfl] at hx125_0)
             (try rw [Addr.add_zero'] at hx125_0)
             replace hx125_0 := (HB.out.cell (World.block_lt_of_cell? w _ hx125_0)).trans hx125_0
             replace p125 := eq_true p125
             replace q125 := eq_true q125
             go_wp2
             go_roundg k1
             case measure => have := HK1.out; omega
             case rel => exact ⟨(Go.bits .or .u32 x5_1 (ji19)), (wrap64 (x14_1 + 1)), (by first | rfl | (simp; done) | (simp only [← hji19] <;> (first | rfl | simp)) | (simp [*]; done)), (by first | rfl | (simp; done) | (simp [*]; done)), H', ⟨by have := HK1.out; omega⟩, ⟨by (with_reducible repeat (first | refine blk_drewN ?_ _ | refine blk_drew ?_ | refine blk_alloc ?_ _)); exact BK120.out⟩, ⟨by repeat (first | (with_reducible first | exact HB.out | apply below_alloc | apply pw_below_drewN | apply below_drew1 | refine below_set ?_ GE120.out) | exact HB.out)⟩⟩
            ·
             rw [if_neg c17] at H
             have c17b0 : (((rd (rd_L3 l1 x14_1) 0) == (rd (rd_L3 l1 (ji10)) 0)) == (x14_1 == 0)) = false := by simpa using c17
             (try (have c17b1 : decide (((rd (rd_L3 l1 x14_1) 0) == (rd (rd_L3 l1 (ji10)) 0)) = (x14_1 == 0)) = false := by simpa using c17))
             (try (have c17b2 : (((rd (rd_L3 l1 x14_1) 0) == (rd (rd_L3 l1 (ji10)) 0)) == (x14_1 == 0)) = false := by simpa using c17))
             (try (have c17b3 : ¬ (((rd (rd_L3 l1 x14_1) 0) == (rd (rd_L3 l1 (ji10)) 0)) = (x14_1 == 0)) := by simpa using c17))
             clear c17
             have H' := Aside0.mk H
             clear H
             have p122 : 0 ≤ ((ji10) : Int) := of_decide_eq_true (by first | (with_reducible assumption) | assumption)
             have q122 : (ji10) < (l1.length : Int) := of_decide_eq_true (by first | (with_reducible assumption) | assumption)
             obtain ⟨ad122, A122_0, c122_0, e122, hx122_0, hl122_0, hi122_0⟩ := at_L3 HR1.out (ji10) p122 q122
             cases e122
             replace hx122_0 := (HB.out.cell (World.block_lt_of_cell? w _ hx122_0)).trans hx122_0
             have HR122_0 := Aside0.mk hi122_0
             have HC122_0 := Aside0.mk hl122_0
             clear hi122_0 hl122_0
             replace p122 := eq_true p122
             replace q122 := eq_true q122
             have p123 : 0 ≤ (0 : Int) := (by omega)
             have q123 : 0 < ((rd_L3 l1 (ji10)).length : Int) := of_decide_eq_true (by first | (with_reducible assumption) | assumption)
             obtain ⟨ad123, e123, hx123_0⟩ := Kd.at_int HR122_0.out 0 p123 q123
             cases e123
             have qi123 : (0 < (rd_L3 l1 (ji10)).length) = True := eq_true (by omega)
             (try rw [show ((0 : Int)).toNat = 0 from rfl] at hx123_0)
             (try rw [Addr.add_zero'] at hx123_0)
             replace hx123_0 := (HB.out.cell (World.block_lt_of_cell? w _ hx123_0)).trans hx123_0
             replace p123 := eq_true p123
             replace q123 := eq_true q123
             have p124 : 0 ≤ (x14_1 : Int) := of_decide_eq_true (by first | (with_reducible assumption) | assumption)
             have q124 : x14_1 < (l1.length : Int) := of_decide_eq_true (by first | (with_reducible assumption) | assumption)
             obtain ⟨ad124, A124_0, c124_0, e124, hx124_0, hl124_0, hi124_0⟩ := at_L3 HR1.out x14_1 p124 q124
             obtain rfl : ad122 = ad124 := (by injection e124)
             replace hx124_0 := (HB.out.cell (World.block_lt_of_cell? w _ hx124_0)).trans hx124_0
             have HR124_0 := Aside0.mk hi124_0
             have HC124_0 := Aside0.mk hl124_0
             clear hi124_0 hl124_0
             replace p124 := eq_true p124
             replace q124 := eq_true q124
             have p125 : 0 ≤ (0 : Int) := (by omega)
             have q125 : 0 < ((rd_L3 l1 x14_1).length : Int) := of_decide_eq_true (by first | (with_reducible assumption) | assumption)
             obtain ⟨ad125, e125, hx125_0⟩ := Kd.at_int HR124_0.out 0 p125 q125
             cases e125
             have qi125 : (0 < (rd_L3 l1 x14_1).length) = True := eq_true (by omega)
             (try rw [show ((0 : Int)).toNat = 0 from rfl] at hx125_0)
             (try rw [Addr.add_zero'] at hx125_0)
             replace hx125_0 := (HB.out.cell (World.block_lt_of_cell? w _ hx125_0)).trans hx125_0
             replace p125 := eq_true p125
             replace q125 := eq_true q125
             go_wp2
             go_roundg k1
             case measure => have := HK1.out; omega
             case rel => exact ⟨(x5_1), (wrap64 (x14_1 + 1)), (by first | rfl | (simp; done) | (simp [*]; done)), (by first | rfl | (simp; done) | (simp [*]; done)), H', ⟨by have := HK1.out; omega⟩, ⟨by (with_reducible repeat (first | refine blk_drewN ?_ _ | refine blk_drew ?_ | refine blk_alloc ?_ _)); exact BK120.out⟩, ⟨by repeat (first | (with_reducible first | exact HB.out | apply below_alloc | apply pw_below_drewN | apply below_drew1 | refine below_set ?_ GE120.out) | exact HB.out)⟩⟩
           ·
            rw [if_neg c16] at H
            exact absurd H (by simp)
          ·
           rw [if_neg c15] at H
           exact absurd H (by simp)
         ·
          rw [if_neg c14] at H
          exact absurd H (by simp)
        ·
         rw [if_neg c13] at H
         exact absurd H (by simp)
       ·
        rw [if_neg c12] at H
        exact absurd H (by simp)
      ·
       rw [if_neg c11] at H
       exact absurd H (by simp)
    ·
     rw [if_neg c8] at H
     have c8b0 : decide (x14_1 < (l1.length : Int)) = false := decide_eq_false c8
     clear c8
     obtain rfl := Option.some.inj H
     go_wp2
     go_ret
     exact ⟨by first | rfl | (simp [errW_none, errW_some] <;> rfl) | (simp [*, errW_none, errW_some] <;> rfl), by repeat (first | (with_reducible first | exact HB.out | apply below_alloc | apply pw_below_drewN | apply below_drew1 | refine below_set ?_ GE120.out) | exact HB.out)⟩
 ·
  replace c4 := Bool.eq_false_iff.mpr c4
  subst c4
  have H1 : (some 0) = some r := by rw [if_neg (show ¬ (false = true) by decide)] at H; exact H
  clear H
  have H := H1
  clear H1
  obtain rfl := Option.some.inj H
  go_enter Try.func27, Try.ntmps27
  go_wp2_with (first | ((with_reducible refine gate_dst (N := 2) rfl ?_); refine box_event ?hg (N := 2) ?hd (cs := #[.slice A0_0 l0_0.length c0_0, .slice A0_1 l0_1.length c0_1]) (t := 27) ?hr ?_; (case hd => rfl); (case hg => rfl); (case hr => first | (go_simp; done) | (go_simp; rfl)); intro gb120 hg w20 hbox hb; have n0_ := Aside0.mk (below_step (by repeat (first | (with_reducible first | exact HB.out | apply below_alloc | apply pw_below_drewN | apply below_drew1) | exact HB.out)) hb); have n1_ := Aside0.mk (hbox); have n2_ := Aside0.mk ((by rw [hg]; exact (below_size (by repeat (first | (with_reducible first | exact HB.out | apply below_alloc | apply pw_below_drewN | apply below_drew1) | exact HB.out))) : w.heap.size ≤ gb120)); have n3_ := Aside0.mk ((by rw [hg]; exact (below_size (by repeat (first | (with_reducible first | exact HB.out | apply below_alloc | apply pw_below_drewN | apply below_drew1) | exact HB.out))) : w.heap.size ≤ gb120)); clear HB; have HB := n0_; have BK120 := n1_; have GW120 := n2_; have GE120 := n3_; clear n0_ n1_ n2_ n3_; clear hb hbox hg; have hcz21_0 : w20.cell? ⟨gb120, 0, none⟩ = some (.slice A0_0 l0_0.length c0_0) := (blk_cell BK120.out 0).trans rfl; have hcz21_1 : w20.cell? ⟨gb120, 1, none⟩ = some (.slice A0_1 l0_1.length c0_1) := (blk_cell BK120.out 1).trans rfl; have hfz21_0 := blk_frozen BK120.out 0; have hfz21_1 := blk_frozen BK120.out 1) | ((with_reducible refine gate_callee (f := 81) rfl ?_); refine goesL_ (some 10) rfl rfl Try.func81 (by kernel_rfl) rfl #[.agg #[.slice A0_0 l0_0.length c0_0, .slice A0_1 l0_1.length c0_1], .slice A1 l1.length c1] rfl (by (try simp only [List.map_toArray, List.map_cons, List.map_nil]); first | done | rfl | (simp only [List.length_drop, List.length_take]; rfl)) ?_; (with_reducible refine (ring_configuration.calls k _ _ l0_0 _ _ l0_1 _ _ l1 false _ ?side1 ?side2 ?side3 ?side4 ?side5 ?side6 A3.out).mono ?_); (case side1 => repeat (first | exact (Kd.C_below HR0_0.out HB.out) | (with_reducible refine Kd.C_alloc ?_ _) | (with_reducible refine Kd.C_drewN ?_ _) | (with_reducible refine Kd.C_drew ?_))); (case side2 => exact HC0_0.out); (case side3 => repeat (first | exact (Kd.C_below HR0_1.out HB.out) | (with_reducible refine Kd.C_alloc ?_ _) | (with_reducible refine Kd.C_drewN ?_ _) | (with_reducible refine Kd.C_drew ?_))); (case side4 => exact HC0_1.out); (case side5 => repeat (first | exact (Kd.C_below HR1.out HB.out) | (with_reducible refine Kd.C_alloc ?_ _) | (with_reducible refine Kd.C_drewN ?_ _) | (with_reducible refine Kd.C_drew ?_))); (case side6 => exact HC1.out); rintro e w22 ⟨rfl, hb⟩; refine ⟨_, rfl, ?_⟩; have n0_ := Aside0.mk (blk_below (g := gb120) (o := .cells #[.slice A0_0 l0_0.length c0_0, .slice A0_1 l0_1.length c0_1] 27 (0, 0)) (by (with_reducible repeat (first | refine blk_drewN ?_ _ | refine blk_drew ?_ | refine blk_alloc ?_ _)); exact BK120.out) hb); have n1_ := Aside0.mk (below_step (by repeat (first | (with_reducible first | exact HB.out | apply below_alloc | apply pw_below_drewN | apply below_drew1 | refine below_set ?_ GE120.out) | exact HB.out)) hb); clear BK120; clear HB; have BK120 := n0_; have HB := n1_; clear n0_ n1_; (try clear hb); (try clear hb2); (try clear hk); (try clear hi)))
  go_ret
  exact ⟨by first | rfl | (simp [errW_none, errW_some] <;> rfl) | (simp [*, errW_none, errW_some] <;> rfl), by repeat (first | (with_reducible first | exact HB.out | apply below_alloc | apply pw_below_drewN | apply below_drew1 | refine below_set ?_ GE120.out) | exact HB.out)⟩
end Go.Proofs.YthapikakneikbaaG
/-
  A graph that the world's functions make, in the printed texts' words: its rows are the call's own.
-/
namespace Go.Proofs.YthapikakneikbaaG
open Go.RowKit Go.Proofs.YthapikakneikbaaW.PrintWords
theorem reps_ints {w : World} {base : Nat} {ok : Nat → Prop} (xs : List Int) : Reps ((Kd.int .i64).M w base ok) 1 xs (Go.Proofs.Ythapikakneikbaa.icells xs) := by
  refine ⟨by simp [Go.Proofs.Ythapikakneikbaa.icells], fun j p hj => ?_⟩
  have hl := (List.getElem?_eq_some_iff.1 hj).1
  show _ = [Value.int .i64 p]
  rw [Nat.mul_one, List.take_one, List.head?_drop]
  simp [Go.Proofs.Ythapikakneikbaa.icells, hj]
theorem own_ints {w : World} {B n : Nat} {v : Value} {xs : List Int} (hn : xs.length = n) (h : w.ownsRow B 3 1 v n (Go.Proofs.Ythapikakneikbaa.icells xs)) : Kd.R (Kd.int .i64) 3 w B (fun _ => True) v xs :=
  ⟨fun _ _ => trivial, Go.Proofs.Ythapikakneikbaa.icells xs, by rw [hn]; exact h, reps_ints xs⟩
def ofL (l : Go.Proofs.Ythapikakneikbaa.Link) : S60 := ⟨l.to_, l.wt⟩
theorem reps_links {w : World} {base : Nat} {ok : Nat → Prop} (ps : List Go.Proofs.Ythapikakneikbaa.Link) : Reps (k60.M w base ok) 2 (ps.map ofL) (Go.Proofs.Ythapikakneikbaa.lcells ps) := by
  refine ⟨by rw [Go.Proofs.Ythapikakneikbaa.lcells_length, List.length_map], fun j p hj => ?_⟩
  rw [List.getElem?_map] at hj
  obtain ⟨l, hl, rfl⟩ := Option.map_eq_some_iff.1 hj
  obtain ⟨g0, g1⟩ := Go.Proofs.Ythapikakneikbaa.lcells_get hl
  have : ((Go.Proofs.Ythapikakneikbaa.lcells ps).drop (j * 2)).take 2 = [.int .i64 l.to_, .int .i64 l.wt] := by
    apply List.ext_getElem?
    intro i
    rw [List.getElem?_take]
    match i with
    | 0 => simpa using g0
    | 1 => simpa using g1
    | i + 2 =>
      have : ¬ i + 2 < 2 := by omega
      simp [this]
  rw [this]
  exact k60_mkM w base ok (ofL l)
/-- The rows of links, and the row that leads to them. -/
theorem own_ports {w : World} {B P n : Nat} {vs : List Value} {rows : List (List Go.Proofs.Ythapikakneikbaa.Link)} (hn : rows.length = n) (hm : n ≤ 1000) (h : Go.Proofs.Ythapikakneikbaa.PortsAt w B P vs rows) :
    Kd.S (Kd.slice 60 k60) 52 w B (fun _ => True) (.slice (some ⟨P, 0, none⟩) n n) (rows.map (List.map ofL)) := by
  have hl : vs.length = n := h.rows.len.trans hn
  open Classical in
  refine ⟨fun k => if hk : ∃ (u : Nat) (v : Value), vs[u]? = some v ∧ v.ownBlock = some k then Classical.choose hk else 0, fun _ _ => trivial, vs, ?_, ?_⟩
  · rw [List.length_zipIdx, List.length_map, hn]
    refine ⟨by show vs.length = n * 1; omega, .inr ⟨P, n, vs.toArray, rfl, h.hP, h.blk, Nat.le_refl _, by unfold maxLen; omega, ?_, ?_⟩⟩
    · show vs.toArray.size = n * 1
      simp [hl]
    · show List.take (n * 1) vs.toArray.toList = vs
      rw [Nat.mul_one]
      exact List.take_of_length_le (by simp [hl])
  · refine ⟨by rw [List.length_zipIdx, List.length_map, h.rows.len]; exact (Nat.mul_one _).symm, fun j p hj => ?_⟩
    rw [List.getElem?_zipIdx] at hj
    obtain ⟨r, hr, rfl⟩ := Option.map_eq_some_iff.1 hj
    rw [List.getElem?_map] at hr
    obtain ⟨ps, hps, rfl⟩ := Option.map_eq_some_iff.1 hr
    have hjl := (List.getElem?_eq_some_iff.1 hps).1
    have hv := List.getElem?_eq_getElem (l := vs) (i := j) (by omega)
    generalize vs[j]'(by omega) = v at hv
    have ho := h.rows.own j v ps hv hps
    have hfar := h.far v (List.mem_of_getElem? hv)
    have e1 : (vs.drop (j * (Kd.tag (fun k => if hk : ∃ (u : Nat) (v : Value), vs[u]? = some v ∧ v.ownBlock = some k then Classical.choose hk else 0) (Kd.slice 60 k60)).sz)).take (Kd.tag (fun k => if hk : ∃ (u : Nat) (v : Value), vs[u]? = some v ∧ v.ownBlock = some k then Classical.choose hk else 0) (Kd.slice 60 k60)).sz = [v] := by
      show List.take 1 (List.drop (j * 1) vs) = [v]
      rw [Nat.mul_one, List.take_one, List.head?_drop, hv]
      rfl
    rw [e1]
    refine ⟨v, rfl, fun k hk => ⟨⟨trivial, ?_⟩, ?_⟩, Go.Proofs.Ythapikakneikbaa.lcells ps, by rw [List.length_map]; exact ho, reps_links ps⟩
    · intro e
      rw [hk] at hfar
      exact hfar (e.trans rfl)
    · have hex : ∃ (u : Nat) (v : Value), vs[u]? = some v ∧ v.ownBlock = some k := ⟨j, v, hv, hk⟩
      show (if hk : ∃ (u : Nat) (v : Value), vs[u]? = some v ∧ v.ownBlock = some k then Classical.choose hk else 0) = 0 + j
      rw [dif_pos hex, Nat.zero_add]
      obtain ⟨v', hv', hk'⟩ := Classical.choose_spec hex
      by_cases e : Classical.choose hex = j
      · exact e
      · rcases h.rows.apart _ _ _ _ hv' hv e with h1 | h1
        · rw [hk'] at h1; cases h1
        · exact absurd (hk'.trans hk.symm) h1
end Go.Proofs.YthapikakneikbaaG
/-
  selfstabworld.Net.Ring, where the net has three nodes or more of itself. (Written by wip/gen/ring.py.)
-/
namespace Go.Proofs.Ythapikakneikbaa
open Go.RowKit
set_option linter.unusedSimpArgs false
/-- The links of node v in a ring of n nodes. -/
def ringRow (wts : List Int) (n v : Nat) : List Link := [⟨((v + n - 1) % n : Nat), 1 + within (at0 wts ((v + n - 1) % n : Nat)) 15⟩, ⟨((v + 1) % n : Nat), 1 + within (at0 wts (v : Nat)) 15⟩]
def ringTo (wts : List Int) (n k : Nat) : List (List Link) := (List.range n).map fun u => if u < k then ringRow wts n u else []
theorem ringTo_len (wts : List Int) (n k : Nat) : (ringTo wts n k).length = n := by simp [ringTo]
theorem ringTo_zero (wts : List Int) (n : Nat) : ringTo wts n 0 = List.replicate n [] := by
  unfold ringTo
  apply List.ext_getElem?
  intro i
  rw [List.getElem?_map, List.getElem?_replicate]
  by_cases hi : i < n
  · simp [hi]
  · simp [hi]
theorem ringTo_set (wts : List Int) {n k : Nat} : (ringTo wts n k).set k (ringRow wts n k) = ringTo wts n (k + 1) := by
  unfold ringTo
  apply List.ext_getElem?
  intro i
  rw [List.getElem?_set, List.getElem?_map, List.getElem?_map]
  by_cases hi : i < n
  · rw [List.getElem?_range hi]
    by_cases e : k = i
    · subst e; simp [hi]
    · have : (i < k + 1) = (i < k) := propext (by omega)
      simp [e, this]
  · by_cases e : k = i
    · subst e; simp [hi]
    · simp [e, hi]
/-- A new row, of a call's own block, in place of an empty one. -/
theorem Rows.put {w w1 : World} {base : Nat} {vs : List Value} {rows : List (List Link)} {a : Nat} {v' : Value} {r' : List Link} (h : Rows w base vs rows) (hg : Below w.heap.size w w1)
    (ho : w1.ownsRow base 60 2 v' r'.length (lcells r')) (hn : ∀ k, v'.ownBlock = some k → w.heap.size ≤ k) (hr : r'.length ≠ 0) : Rows w1 base (vs.set a v') (rows.set a r') := by
  have hlt : ∀ {u : Nat} {v : Value} {k : Nat}, vs[u]? = some v → v.ownBlock = some k → k < w.heap.size := fun {u v k} hv hk => by
    have hul := (List.getElem?_eq_some_iff.1 hv).1
    exact own_lt (h.own u v _ hv (List.getElem?_eq_getElem (by rw [← h.len]; exact hul))) k hk
  refine ⟨by simp [h.len], ?_, ?_, ?_⟩
  · intro u v ps hv hp
    rw [List.getElem?_set] at hv hp
    by_cases e : a = u
    · subst e
      rw [if_pos rfl] at hv hp
      split at hv
      · split at hp
        · obtain rfl : v' = v := by simpa using hv
          obtain rfl : r' = ps := by simpa using hp
          exact ho
        · cases hp
      · cases hv
    · rw [if_neg e] at hv hp
      have h1 := h.own u v ps hv hp
      obtain ⟨hl, h2⟩ := h1
      refine ⟨hl, ?_⟩
      rcases h2 with h2 | ⟨g, cap, cur, e1, e2, e3, e4⟩
      · exact .inl h2
      · exact .inr ⟨g, cap, cur, e1, e2, (hg.block g (blk_lt e3)).trans e3, e4⟩
  · intro u u' v v1 hv hv1 hne
    rw [List.getElem?_set] at hv hv1
    by_cases e : a = u
    · subst e
      rw [if_pos rfl] at hv
      rw [if_neg hne] at hv1
      split at hv
      · obtain rfl : v' = v := by simpa using hv
        cases hk : v'.ownBlock with
        | none => exact .inl rfl
        | some k =>
          refine .inr fun e1 => ?_
          have := hlt hv1 e1.symm
          have := hn k hk
          omega
      · cases hv
    · rw [if_neg e] at hv
      by_cases e' : a = u'
      · subst e'
        rw [if_pos rfl] at hv1
        split at hv1
        · obtain rfl : v' = v1 := by simpa using hv1
          cases hk : v.ownBlock with
          | none => exact .inl rfl
          | some k =>
            refine .inr fun e1 => ?_
            have := hlt hv hk
            have := hn k e1.symm
            omega
        · cases hv1
      · rw [if_neg e'] at hv1
        exact h.apart u u' v v1 hv hv1 hne
  · intro u v ps hv hp h0
    rw [List.getElem?_set] at hv hp
    by_cases e : a = u
    · subst e
      rw [if_pos rfl] at hp
      split at hp
      · obtain rfl : r' = ps := by simpa using hp
        exact absurd h0 hr
      · cases hp
    · rw [if_neg e] at hv hp
      exact h.nil u v ps hv hp h0
set_option maxHeartbeats 8000000 in
set_option maxRecDepth 100000 in
theorem ring_calls (w : World) (x : Net) (AL AW AI : Option Addr) (cL cW cI : Nat) (hx : x.In w AL AW AI) (most : Int) (hm1 : 3 ≤ most) (hm2 : most ≤ 26) (h3 : 3 ≤ nodeCount x.N (most - 2)) :
    Calls Try.prog 79 #[.agg #[.int .i64 x.N, .slice AL x.links.length cL, .slice AW x.weights.length cW, .slice AI x.ids.length cI, .bool x.ap, .bool x.back], .int .i64 most] w
      (fun e w' => MadeN w.heap.size (nodeCount x.N (most - 2)) ⟨nodeIds x.ids (nodeCount x.N (most - 2)), ringTo x.weights (nodeCount x.N (most - 2)) (nodeCount x.N (most - 2))⟩ w w' e) := by
  obtain ⟨hn1, hn2, hn3⟩ := nodeCount_bd (N := x.N) (most := most - 2) (by omega)
  have HX := Lib.hid hx
  clear hn3
  go_enter Try.func79, Try.ntmps79
  go_wp2_with fail
  have hb0 := ((Below.refl w.heap.size w).alloc (Nat.le_refl _) (.cells #[.int .i64 x.N, .slice AL x.links.length cL, .slice AW x.weights.length cW, .slice AI x.ids.length cI, .bool x.ap, .bool x.back] 24)).alloc (by simp) (.cells #[nilRow, nilRow] 27)
  refine (nodes_calls _ _ _ _ _ _ _ (Kd.C_below hx.hI hb0) _ _ _ (by omega) (by omega)).mono ?_
  rintro e w1 ⟨vI, P, rfl, hown, hpa, hb1⟩
  have hzq := hb1.size
  simp only [World.size_alloc] at hzq hown hpa
  have hl := nodeIds_length x.ids (nodeCount x.N (most - 2))
  obtain ⟨A1, c1, hvI, hl1, _⟩ := ints_reads (xs := nodeIds x.ids (nodeCount x.N (most - 2))) (by rw [hl]; exact hown)
  rw [hl] at hl1 hvI
  subst hvI
  have hT0 : TreeAt w (w1.alloc (.cells #[.slice A1 (nodeCount x.N (most - 2)) c1, .slice (some ⟨P, 0, none⟩) (nodeCount x.N (most - 2)) (nodeCount x.N (most - 2))] 27)) #[.int .i64 x.N, .slice AL x.links.length cL, .slice AW x.weights.length cW, .slice AI x.ids.length cI, .bool x.ap, .bool x.back]
      w1.heap.size (w.heap.size + 1 + 1) P (nodeCount x.N (most - 2)) (.slice A1 (nodeCount x.N (most - 2)) c1) (nodeIds x.ids (nodeCount x.N (most - 2))) (ringTo x.weights (nodeCount x.N (most - 2)) 0) := by
    refine ⟨?_, ?_, blk_new rfl, ringTo_len _ _ _, hown.alloc _, ⟨_, by rw [ringTo_zero]; exact hpa.alloc _⟩, ?_⟩
    · exact blk_alloc (blk_below (blk_alloc (blk_new rfl) _) hb1) _
    · exact blk_alloc (blk_below (blk_new (by simp)) hb1) _
    · exact (hb0.trans (hb1.mono (by simp; omega))).alloc (by omega) _
  have HT0 := Lib.hid hT0
  have HGX : Hid (w.heap.size + 1 < w1.heap.size) := by unfold Hid; omega
  have HGlt : Hid (w1.heap.size < (w1.alloc (.cells #[.slice A1 (nodeCount x.N (most - 2)) c1, .slice (some ⟨P, 0, none⟩) (nodeCount x.N (most - 2)) (nodeCount x.N (most - 2))] 27)).heap.size) := by unfold Hid; simp
  clear hb0 hown hpa hb1 hT0 hzq hx hl
  generalize hnn : nodeCount x.N (most - 2) = n at hn1 hn2 hl1 HT0 h3 HGlt
  have HNN := Lib.hid hnn
  clear hnn
  have h3i : (3 : Int) ≤ (n : Int) := by omega
  have h3b : decide ((n : Int) < 3) = false := by simp; omega
  go_wp2_with fail
  generalize w1.heap.size = G at HT0 HGX HGlt ⊢
  generalize w1.alloc _ = wl at HT0 HGlt
  go_loopw [6, 7] (fun _ _ wr => wl = wr) (fun _ _ _ => 0)
  case atStart => rfl
  case round =>
    obtain rfl := hrel
    have cG0 := blk_cell (j := 0) (v := .slice A1 n c1) HT0.out.bG rfl
    have cG1 := blk_cell (j := 1) (v := .slice (some ⟨P, 0, none⟩) n n) HT0.out.bG rfl
    go_wp2_with fail
    go_loopw [9, 10, 11] (fun i _ _ wr => ∃ (k : Nat), k ≤ n ∧ i = .int .i64 (k : Nat) ∧ TreeAt w wr #[.int .i64 x.N, .slice AL x.links.length cL, .slice AW x.weights.length cW, .slice AI x.ids.length cI, .bool x.ap, .bool x.back] G (w.heap.size + 1 + 1) P n (.slice A1 n c1) (nodeIds x.ids n) (ringTo x.weights n k) ∧ Aside0 (G < wr.heap.size)) (fun i _ _ _ => n - (intOf i).toNat)
    case atStart => exact ⟨0, Nat.zero_le _, rfl, HT0.out, ⟨HGlt.out⟩⟩
    case round =>
      obtain ⟨wo, rfl⟩ : ∃ wo : World, wo = wr := ⟨_, rfl⟩
      obtain ⟨k, hk, rfl, hT, hGl⟩ := hrel
      have HT := Lib.hid hT
      clear hT HT0 cG0 cG1
      by_cases hk2 : k < n
      · have hpv : (k + n - 1) % n < n := Nat.mod_lt _ (by omega)
        have e1 : ((k : Int) + (n : Int) - 1) % (n : Int) = (((k + n - 1) % n : Nat) : Int) := by
          rw [show (k : Int) + (n : Int) - 1 = ((k + n - 1 : Nat) : Int) from by omega]; rfl
        have e2 : ((k : Int) + 1) % (n : Int) = (((k + 1) % n : Nat) : Int) := rfl
        have E1 := Lib.hid e1
        have E2 := Lib.hid e2
        have hpv2 : (k + 1) % n < n := Nat.mod_lt _ (by omega)
        obtain ⟨pv, hpvv⟩ : ∃ pv : Nat, (k + n - 1) % n = pv := ⟨_, rfl⟩
        obtain ⟨nv, hnvv⟩ : ∃ nv : Nat, (k + 1) % n = nv := ⟨_, rfl⟩
        have HROW : Hid (ringRow x.weights n k = [⟨(pv : Int), 1 + within (at0 x.weights (pv : Int)) 15⟩, ⟨(nv : Int), 1 + within (at0 x.weights (k : Int)) 15⟩]) := by unfold Hid ringRow; rw [hpvv, hnvv]
        rw [hpvv] at E1 hpv
        rw [hnvv] at E2 hpv2
        have b1 := within_bd (v := at0 x.weights (pv : Int)) (m := 15) (by omega)
        have b2 := within_bd (v := at0 x.weights (k : Int)) (m := 15) (by omega)
        obtain ⟨a1, ha1⟩ : ∃ a1, at0 x.weights (pv : Int) = a1 := ⟨_, rfl⟩
        obtain ⟨a2, ha2⟩ : ∃ a2, at0 x.weights (k : Int) = a2 := ⟨_, rfl⟩
        obtain ⟨t1, ht1⟩ : ∃ t1, within a1 15 = t1 := ⟨_, rfl⟩
        obtain ⟨t2, ht2⟩ : ∃ t2, within a2 15 = t2 := ⟨_, rfl⟩
        rw [ha1, ht1] at b1
        rw [ha2, ht2] at b2
        have HR2 : Hid (ringRow x.weights n k = [⟨(pv : Int), 1 + t1⟩, ⟨(nv : Int), 1 + t2⟩]) := by unfold Hid; rw [HROW.out, ha1, ht1, ha2, ht2]
        have HA1 := Lib.hid ha1
        have HA2 := Lib.hid ha2
        have HT1 := Lib.hid ht1
        have HT2 := Lib.hid ht2
        clear hpvv hnvv e1 e2 HROW ha1 ha2 ht1 ht2
        have cX2 := blk_cell (j := 2) (v := .slice AW x.weights.length cW) HT.out.bX rfl
        have cG0 := blk_cell (j := 0) (v := .slice A1 n c1) HT.out.bG rfl
        have cG1 := blk_cell (j := 1) (v := .slice (some ⟨P, 0, none⟩) n n) HT.out.bG rfl
        have HXw := Lib.hid (HX.out.below HT.out.bel)
        have hqa : ∀ m, Calls Try.prog 71 #[.slice AW x.weights.length cW, .int .i64 (pv : Int)] (wo.drewN m) fun e w'' => e = .returned (.int .i64 a1) ∧ ∃ m', w'' = wo.drewN m' := fun m => Calls.quiet_of_same ((at_calls (wo.drewN m) AW cW x.weights (Kd.C_keep HXw.out.hW fun _ _ => rfl) (pv : Int) (by omega)).mono (fun _ _ h => ⟨by rw [h.1, HA1.out], h.2.symm⟩))
        have hqw : ∀ m, Calls Try.prog 70 #[.int .i64 a1, .int .i64 15] (wo.drewN m) fun e w'' => e = .returned (.int .i64 t1) ∧ ∃ m', w'' = wo.drewN m' := fun m => Calls.quiet_of_same ((within_calls (wo.drewN m) a1 15 (by omega)).mono (fun _ _ h => ⟨by rw [h.1, HT1.out], h.2.symm⟩))
        have HQA := Lib.hid hqa
        have HQW := Lib.hid hqw
        clear hqa hqw
        have hn0 : (n : Int) ≠ 0 := by omega
        have s1 : IntKind.i64.wrap ((k : Int) + (n : Int)) = (k : Int) + (n : Int) := IntWalk.i64_in _ (by omega)
        have s2 : IntKind.i64.wrap ((k : Int) + (n : Int) - 1) = (k : Int) + (n : Int) - 1 := IntWalk.i64_in _ (by omega)
        have s3 : ((k : Int) + (n : Int) - 1).tmod (n : Int) = (pv : Int) := by rw [Int.tmod_eq_emod_of_nonneg (by omega)]; exact E1.out
        have s4 : ((k : Int) + 1).tmod (n : Int) = (nv : Int) := by rw [Int.tmod_eq_emod_of_nonneg (by omega)]; exact E2.out
        have s5 : ((k : Int) + (n : Int) - 1) % (n : Int) = (pv : Int) := E1.out
        have s6 : ((k : Int) + 1) % (n : Int) = (nv : Int) := E2.out
        have S4 := Lib.hid s4
        have S6 := Lib.hid s6
        clear s4 s6
        go_wp2_with fail
        go_quiet ((first | (go_at_call 71; exact HQA.out _) | (go_at_call 70; exact HQW.out _)))
        rename_i nq
        have HTd : Hid (TreeAt w (wo.drewN nq) #[.int .i64 x.N, .slice AL x.links.length cL, .slice AW x.weights.length cW, .slice AI x.ids.length cI, .bool x.ap, .bool x.back] G (w.heap.size + 1 + 1) P n (.slice A1 n c1) (nodeIds x.ids n) (ringTo x.weights n k)) := by
          obtain ⟨vs, hpa⟩ := HT.out.pa
          exact ⟨HT.out.bX, HT.out.bR, HT.out.bG, HT.out.len, HT.out.own, ⟨vs, hpa.blk, ⟨hpa.rows.len, hpa.rows.own, hpa.rows.apart, hpa.rows.nil⟩, hpa.hP⟩, below_drewN HT.out.bel nq⟩
        have hGl2 : Aside0 (G < (wo.drewN nq).heap.size) := hGl
        clear s1 s2 s3 s5 HT HXw cX2 cG0 cG1 HQA HQW hGl
        generalize wo.drewN nq = W at HTd hGl2 ⊢
        have cX2 := blk_cell (j := 2) (v := .slice AW x.weights.length cW) HTd.out.bX rfl
        have HXw := Lib.hid (HX.out.below HTd.out.bel)
        go_wp2_with fail
        refine (at_calls _ _ _ _ HXw.out.hW _ (by omega)).mono ?_
        rintro e w3 ⟨rfl, rfl⟩
        rw [HA2.out]
        go_wp2_with fail
        refine (within_calls _ _ _ (by omega)).mono ?_
        rintro e w3 ⟨rfl, rfl⟩
        rw [HT2.out]
        go_wp2_with fail
        obtain ⟨vs, hpa⟩ := HTd.out.pa
        have HPA := Lib.hid hpa
        have hPb := hpa.hP
        have hPW := blk_lt hpa.blk
        have hvl : vs.length = n := by rw [hpa.rows.len, ringTo_len]
        have hkL : k < vs.length := by omega
        obtain ⟨vk, hvk⟩ : ∃ vk, vs[k]? = some vk := ⟨_, List.getElem?_eq_getElem hkL⟩
        have cG0 := blk_cell (j := 0) (v := .slice A1 n c1) HTd.out.bG rfl
        have cG1 := blk_cell (j := 1) (v := .slice (some ⟨P, 0, none⟩) n n) HTd.out.bG rfl
        have cPk := port_cell hpa.blk hvk
        have fPk := blk_free k hpa.blk
        have k0 : (0 : Int) ≤ (k : Int) := by omega
        have k1 : (k : Int) < (n : Int) := by omega
        have s1 : IntKind.i64.wrap ((k : Int) + (n : Int)) = (k : Int) + (n : Int) := IntWalk.i64_in _ (by omega)
        have s2 : IntKind.i64.wrap ((k : Int) + (n : Int) - 1) = (k : Int) + (n : Int) - 1 := IntWalk.i64_in _ (by omega)
        have s3 : ((k : Int) + (n : Int) - 1).tmod (n : Int) = (pv : Int) := by rw [Int.tmod_eq_emod_of_nonneg (by omega)]; exact E1.out
        have s4 : ((k : Int) + 1).tmod (n : Int) = (nv : Int) := S4.out
        have s7 : IntKind.i64.wrap ((k : Int) + 1) = (k : Int) + 1 := IntWalk.i64_in _ (by omega)
        have s5 : ((k : Int) + (n : Int) - 1) % (n : Int) = (pv : Int) := E1.out
        have s6 : ((k : Int) + 1) % (n : Int) = (nv : Int) := S6.out
        have hn00 : ¬ n = 0 := by omega
        clear hpa cX2
        refine start_ (n := 20) (S := fun w' => w'.cell? ⟨G, 1, none⟩ = some (.slice (some ⟨P, 0, none⟩) n n) ∧ w'.cell? ⟨P, k, none⟩ = some vk) (ds := [19]) #[false, false, false, false, false, false, false, false, false, false, false, false, false, false, false, false, false, false, false, false] (by kernel_rfl) rfl rfl ⟨cG1, cPk⟩ (fun hHeld => ?_)
        refine pure_ (i := 0) (N := some 72) (v := ?_) (a' := ?_) #[true, false, false, false, false, false, false, false, false, false, false, false, false, false, false, false, false, false, false, false] rfl rfl (by kernel_rfl) (fun _ _ _ h => h) (Or.inl ⟨by rfl, ?_⟩) ?_ ?_
        rotate_left
        · intro w'
          go_simp
          with_reducible rfl
        rotate_left
        · simp only [Act.put, List.setIfInBounds_toArray, List.set_cons_zero, List.set_cons_succ, i64_w, i32_w]
          rfl
        refine pure_ (i := 2) (N := some 74) (v := ?_) (a' := ?_) #[true, false, true, false, false, false, false, false, false, false, false, false, false, false, false, false, false, false, false, false] rfl rfl (by kernel_rfl) (fun _ _ _ h => h) (Or.inl ⟨by rfl, ?_⟩) ?_ ?_
        rotate_left
        · intro w'
          go_simp
          with_reducible rfl
        rotate_left
        · simp only [Act.put, List.setIfInBounds_toArray, List.set_cons_zero, List.set_cons_succ, i64_w, i32_w]
          rfl
        refine pure_ (i := 3) (N := some 75) (v := ?_) (a' := ?_) #[true, false, true, true, false, false, false, false, false, false, false, false, false, false, false, false, false, false, false, false] rfl rfl (by kernel_rfl) (fun _ _ _ h => h) (Or.inl ⟨by rfl, ?_⟩) ?_ ?_
        rotate_left
        · intro w'
          go_simp
          with_reducible rfl
        rotate_left
        · simp only [Act.put, List.setIfInBounds_toArray, List.set_cons_zero, List.set_cons_succ, i64_w, i32_w]
          rfl
        refine pure_ (i := 4) (N := some 76) (v := ?_) (a' := ?_) #[true, false, true, true, true, false, false, false, false, false, false, false, false, false, false, false, false, false, false, false] rfl rfl (by kernel_rfl) (fun _ _ _ h => h) (Or.inl ⟨by rfl, ?_⟩) ?_ ?_
        rotate_left
        · intro w'
          go_simp
          with_reducible rfl
        rotate_left
        · simp only [Act.put, List.setIfInBounds_toArray, List.set_cons_zero, List.set_cons_succ, i64_w, i32_w]
          rfl
        refine pure_ (i := 5) (N := some 77) (v := ?_) (a' := ?_) #[true, false, true, true, true, true, false, false, false, false, false, false, false, false, false, false, false, false, false, false] rfl rfl (by kernel_rfl) (fun _ _ _ h => h) (Or.inl ⟨by rfl, ?_⟩) ?_ ?_
        rotate_left
        · intro w'
          go_simp
          with_reducible rfl
        rotate_left
        · simp only [Act.put, List.setIfInBounds_toArray, List.set_cons_zero, List.set_cons_succ, i64_w, i32_w]
          rfl
        refine pure_ (i := 6) (N := some 78) (v := ?_) (a' := ?_) #[true, false, true, true, true, true, true, false, false, false, false, false, false, false, false, false, false, false, false, false] rfl rfl (by kernel_rfl) (fun _ _ _ h => h) (Or.inl ⟨by rfl, ?_⟩) ?_ ?_
        rotate_left
        · intro w'
          go_simp
          with_reducible rfl
        rotate_left
        · simp only [Act.put, List.setIfInBounds_toArray, List.set_cons_zero, List.set_cons_succ, i64_w, i32_w]
          rfl
        refine pure_ (i := 7) (N := some 79) (v := ?_) (a' := ?_) #[true, false, true, true, true, true, true, true, false, false, false, false, false, false, false, false, false, false, false, false] rfl rfl (by kernel_rfl) (fun _ _ _ h => h) (Or.inl ⟨by rfl, ?_⟩) ?_ ?_
        rotate_left
        · intro w'
          go_simp
          with_reducible rfl
        rotate_left
        · simp only [Act.put, List.setIfInBounds_toArray, List.set_cons_zero, List.set_cons_succ, i64_w, i32_w]
          rfl
        refine pure_ (i := 8) (N := some 80) (v := ?_) (a' := ?_) #[true, false, true, true, true, true, true, true, true, false, false, false, false, false, false, false, false, false, false, false] rfl rfl (by kernel_rfl) (fun _ _ _ h => h) (Or.inl ⟨by rfl, ?_⟩) ?_ ?_
        rotate_left
        · intro w'
          go_simp
          with_reducible rfl
        rotate_left
        · simp only [Act.put, List.setIfInBounds_toArray, List.set_cons_zero, List.set_cons_succ, i64_w, i32_w]
          rfl
        refine pure_ (i := 9) (N := some 81) (v := ?_) (a' := ?_) #[true, false, true, true, true, true, true, true, true, true, false, false, false, false, false, false, false, false, false, false] rfl rfl (by kernel_rfl) (fun _ _ _ h => h) (Or.inl ⟨by rfl, ?_⟩) ?_ ?_
        rotate_left
        · intro w'
          go_simp
          with_reducible rfl
        rotate_left
        · simp only [Act.put, List.setIfInBounds_toArray, List.set_cons_zero, List.set_cons_succ, i64_w, i32_w]
          rfl
        refine pure_ (i := 10) (N := some 82) (v := ?_) (a' := ?_) #[true, false, true, true, true, true, true, true, true, true, true, false, false, false, false, false, false, false, false, false] rfl rfl (by kernel_rfl) (fun _ _ _ h => h) (Or.inl ⟨by rfl, ?_⟩) ?_ ?_
        rotate_left
        · intro w'
          go_simp
          with_reducible rfl
        rotate_left
        · simp only [Act.put, List.setIfInBounds_toArray, List.set_cons_zero, List.set_cons_succ, i64_w, i32_w]
          rfl
        refine pure_ (i := 11) (N := some 83) (v := ?_) (a' := ?_) #[true, false, true, true, true, true, true, true, true, true, true, true, false, false, false, false, false, false, false, false] rfl rfl (by kernel_rfl) (fun _ _ _ h => h) (Or.inl ⟨by rfl, ?_⟩) ?_ ?_
        rotate_left
        · intro w'
          go_simp
          with_reducible rfl
        rotate_left
        · simp only [Act.put, List.setIfInBounds_toArray, List.set_cons_zero, List.set_cons_succ, i64_w, i32_w]
          rfl
        refine pure_ (i := 12) (N := some 84) (v := ?_) (a' := ?_) #[true, false, true, true, true, true, true, true, true, true, true, true, true, false, false, false, false, false, false, false] rfl rfl (by kernel_rfl) (fun _ _ _ h => h) (Or.inl ⟨by rfl, ?_⟩) ?_ ?_
        rotate_left
        · intro w'
          go_simp
          with_reducible rfl
        rotate_left
        · simp only [Act.put, List.setIfInBounds_toArray, List.set_cons_zero, List.set_cons_succ, i64_w, i32_w]
          rfl
        refine pure_ (i := 13) (N := some 85) (v := ?_) (a' := ?_) #[true, false, true, true, true, true, true, true, true, true, true, true, true, true, false, false, false, false, false, false] rfl rfl (by kernel_rfl) (fun _ _ _ h => h) (Or.inl ⟨by rfl, ?_⟩) ?_ ?_
        rotate_left
        · intro w'
          go_simp
          with_reducible rfl
        rotate_left
        · simp only [Act.put, List.setIfInBounds_toArray, List.set_cons_zero, List.set_cons_succ, i64_w, i32_w]
          rfl
        refine pure_ (i := 14) (N := some 86) (v := ?_) (a' := ?_) #[true, false, true, true, true, true, true, true, true, true, true, true, true, true, true, false, false, false, false, false] rfl rfl (by kernel_rfl) (fun _ _ _ h => h) (Or.inl ⟨by rfl, ?_⟩) ?_ ?_
        rotate_left
        · intro w'
          go_simp
          with_reducible rfl
        rotate_left
        · simp only [Act.put, List.setIfInBounds_toArray, List.set_cons_zero, List.set_cons_succ, i64_w, i32_w]
          rfl
        refine pure_ (i := 15) (N := some 87) (v := ?_) (a' := ?_) #[true, false, true, true, true, true, true, true, true, true, true, true, true, true, true, true, false, false, false, false] rfl rfl (by kernel_rfl) (fun _ _ _ h => h) (Or.inl ⟨by rfl, ?_⟩) ?_ ?_
        rotate_left
        · intro w'
          go_simp
          with_reducible rfl
        rotate_left
        · simp only [Act.put, List.setIfInBounds_toArray, List.set_cons_zero, List.set_cons_succ, i64_w, i32_w]
          rfl
        refine pure_ (i := 16) (N := some 88) (v := ?_) (a' := ?_) #[true, false, true, true, true, true, true, true, true, true, true, true, true, true, true, true, true, false, false, false] rfl rfl (by kernel_rfl) (fun _ _ _ h => h) (Or.inl ⟨by rfl, ?_⟩) ?_ ?_
        rotate_left
        · intro w'
          go_simp
          with_reducible rfl
        rotate_left
        · simp only [Act.put, List.setIfInBounds_toArray, List.set_cons_zero, List.set_cons_succ, i64_w, i32_w]
          rfl
        refine take_ (i := 1) (N := some 73) (v := ?_) (a' := ?_) #[true, true, true, true, true, true, true, true, true, true, true, true, true, true, true, true, true, false, false, false] rfl rfl (by kernel_rfl) (fun _ _ _ h => h) (Or.inl ⟨by rfl, ?_⟩) hHeld ?_ ?_
        rotate_left
        · rintro w' ⟨s0, s1⟩
          go_simp
          with_reducible rfl
        rotate_left
        · simp only [Act.put, List.setIfInBounds_toArray, List.set_cons_zero, List.set_cons_succ, i64_w, i32_w]
          rfl
        refine one_ (i := 17) (N := some 89) #[true, true, true, true, true, true, true, true, true, true, true, true, true, true, true, true, true, true, false, false] rfl rfl (by kernel_rfl) (by decide) (fun K hK => ?_)
        refine value_ (w1 := ?_) (v := ?_) (by rfl) rfl ?_ ?_
        rotate_left 2
        · go_simp
          constructor
          · rfl
          · rfl
        refine hK.out _ _ ⟨cell_a _ hHeld.1, cell_a _ hHeld.2⟩ (fun hHeld => ?_)
        clear hK K
        refine norm_ (a' := ?_) ?_ ?_
        rotate_left
        · show Act.put _ (some 89) _ = _
          simp only [Act.put, List.setIfInBounds_toArray, List.set_cons_zero, List.set_cons_succ, i64_w, i32_w]
          rfl
        refine pure_ (i := 18) (N := some 90) (v := ?_) (a' := ?_) #[true, true, true, true, true, true, true, true, true, true, true, true, true, true, true, true, true, true, true, false] rfl rfl (by kernel_rfl) (fun _ _ _ h => h) (Or.inl ⟨by rfl, ?_⟩) ?_ ?_
        rotate_left
        · intro w'
          go_simp
          with_reducible rfl
        rotate_left
        · simp only [Act.put, List.setIfInBounds_toArray, List.set_cons_zero, List.set_cons_succ, i64_w, i32_w]
          rfl
        refine last_ (i := 19) (N := none) #[true, true, true, true, true, true, true, true, true, true, true, true, true, true, true, true, true, true, true, true] rfl rfl (by kernel_rfl) (by decide) (fun K hK => ?_)
        refine skip_ (w1 := ?_) (by rfl) rfl ?_ ?_
        rotate_left
        · go_simp
          rfl
        refine hK.out _ _ ?_
        clear hK K
        refine done_ (by kernel_rfl) ?_
        go_wp2_with fail
        go_roundw
        case rel =>
          refine ⟨k + 1, by omega, by go_num, ?_, ⟨?_⟩⟩
          · rw [← World.setCell_alloc_past _ _ _ _ hPW]
            have hrows : Rows (W.alloc (.cells #[.int .i64 (pv : Int), .int .i64 (1 + t1), .int .i64 (nv : Int), .int .i64 (1 + t2)] 60)) (w.heap.size + 1 + 1) (vs.set k (.slice (some ⟨W.heap.size, 0, none⟩) 2 2)) (ringTo x.weights n (k + 1)) := by
              rw [← ringTo_set]
              refine HPA.out.rows.put ((Below.refl _ _).alloc (Nat.le_refl _) _) ?_ (fun q hq => by simp [Value.ownBlock] at hq; omega) (by rw [HR2.out]; simp)
              rw [HR2.out]
              exact ⟨rfl, .inr ⟨W.heap.size, 2, _, rfl, by omega, heap_alloc_new _ _, Nat.le_refl _, by decide, rfl, rfl⟩⟩
            have hblk : (W.alloc (.cells #[.int .i64 (pv : Int), .int .i64 (1 + t1), .int .i64 (nv : Int), .int .i64 (1 + t2)] 60)).heap[P]? = some (.cells vs.toArray 52 (0, 0)) := blk_alloc HPA.out.blk _
            have hp5 := PortsAt.store (a := k) hblk hkL hrows hPb
            have hb5 := ((Below.refl (w.heap.size + 1 + 1) W).alloc (by omega) (.cells #[.int .i64 (pv : Int), .int .i64 (1 + t1), .int .i64 (nv : Int), .int .i64 (1 + t2)] 60)).setCell (p := ⟨P, k, none⟩) hPb (.slice (some ⟨W.heap.size, 0, none⟩) 2 2)
            have hs5 := ((Spared.refl W).alloc (.cells #[.int .i64 (pv : Int), .int .i64 (1 + t1), .int .i64 (nv : Int), .int .i64 (1 + t2)] 60)).set (a := k) (u := .slice (some ⟨W.heap.size, 0, none⟩) 2 2) hblk
            exact HTd.out.step (Nat.le_add_right _ 2) (ringTo_len _ _ _) (vs' := vs.set k (.slice (some ⟨W.heap.size, 0, none⟩) 2 2)) ⟨hp5.blk, ⟨hp5.rows.len, hp5.rows.own, hp5.rows.apart, hp5.rows.nil⟩, hp5.hP⟩ ⟨hb5.os, hb5.tape, hb5.output, hb5.size, hb5.block⟩ (fun I cs T g1 g2 g3 => hs5 I cs T g1 g2 g3)
          · show G < ((W.setCell _ _).alloc _).heap.size
            have := hGl2.out
            simp [World.setCell]
            omega
        case measure => simp [intOf]; omega
      · have cR0 := blk_cell (j := 0) (v := nilRow) HT.out.bR rfl
        have cR1 := blk_cell (j := 1) (v := nilRow) HT.out.bR rfl
        have fR0 := blk_free 0 HT.out.bR
        have fR1 := blk_free 1 HT.out.bR
        have cG0 := blk_cell (j := 0) (v := .slice A1 n c1) HT.out.bG rfl
        have cG1 := blk_cell (j := 1) (v := .slice (some ⟨P, 0, none⟩) n n) HT.out.bG rfl
        have HKN : Hid (k = n) := by unfold Hid; omega
        go_wp2_with fail
        refine bodyPost_ret (v := .agg #[.slice A1 n c1, .slice (some ⟨P, 0, none⟩) n n]) (by simp [results, Try.results79, go_sem, cR0, cR1]) rfl ?_
        rw [HNN.out]
        have hkn := HKN.out
        subst hkn
        have hl : (nodeIds x.ids k).length = k := nodeIds_length x.ids k
        have hb1 := blk_set 0 (.slice A1 k c1) HT.out.bR (by simp)
        have ho1 := own_keep HT.out.own (grown_set wo ⟨w.heap.size + 1, 0, none⟩ (.slice A1 k c1)) (fun q hq => by cases hq; exact own_ne HT.out.own HT.out.bR (by decide))
        have ho2 := own_keep ho1 (grown_set _ ⟨w.heap.size + 1, 1, none⟩ (.slice (some ⟨P, 0, none⟩) k k)) (fun q hq => by cases hq; exact own_ne ho1 hb1 (by decide))
        obtain ⟨vs, hpa⟩ := HT.out.pa
        have hp1 := hpa.setNil (p := ⟨w.heap.size + 1, 0, none⟩) (u := .slice A1 k c1) HT.out.bR (by decide) (by decide)
        have hp2 := hp1.setNil (p := ⟨w.heap.size + 1, 1, none⟩) (u := .slice (some ⟨P, 0, none⟩) k k) hb1 (by decide) (by decide)
        exact ⟨A1, c1, P, vs, rfl, ⟨hl1, hl, ringTo_len _ _ _⟩, own_base ho2 (by omega), hp2.base (by omega), (HT.out.bel.setCell (by simp) _).setCell (by simp) _⟩
end Go.Proofs.Ythapikakneikbaa
/-
  As MadeBridge, beside the contract of the text Ring.
-/
