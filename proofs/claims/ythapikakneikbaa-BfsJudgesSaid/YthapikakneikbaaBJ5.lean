/-
  Lemmas and walks for this claim, part 5: GbfsLegit, GbfsClaim, Gselfstablaw23sameInts, GshapeAt, GbfsParents, MadeBridge, GselfstabworldNetTree, Gselfstablaw23known, Gselfstabref23Fit, Gselfstabref23Config, Gselfstabref23Number, Gselfstabref23Pointer, Gselfstabref23Vars.
-/
import Derived.Test.YthapikakneikbaaBJ4
namespace Go.Proofs.YthapikakneikbaaG
open Go.RowKit Go.Proofs.YthapikakneikbaaW.PrintWords Go.Proofs.YthapikakneikbaaW.PrintLast Go.Proofs.YthapikakneikbaaW.PrintMore
attribute [local go_sem] max2_int min2_int max_two min_two max_three min_three max_four min_four   -- for this text's walks alone
set_option linter.unusedVariables false
set_option linter.unusedSimpArgs false
/-! ### bfs_Legit: function 40 -/
def bfs_Legit.l0 : Nat → List Int → List (List Int) → Int → Int → List Int → List (List (S60)) → Option (Bool)
 | 0, _, _, _, _, _, _ => none
 | k + 1, x5, x14, x15, x16, x493000, x493001 => if x16 < x15 then (if 0 ≤ x16 then (if x16 < (x14.length : Int) then (if 0 < ((rd_L3 x14 x16).length : Int) then (if x16 < (x5.length : Int) then (if (rd (rd_L3 x14 x16) 0) = (rd x5 x16) then (if 1 < ((rd_L3 x14 x16).length : Int) then ((bfs_towards.f k x493000 x493001 x5 x16).bind fun t501 => (if (rd (rd_L3 x14 x16) 1) = t501 then (bfs_Legit.l0 k x5 x14 x15 (wrap64 (x16 + 1)) x493000 x493001) else (some false))) else (none)) else (some false)) else (none)) else (none)) else (none)) else (none)) else (some true)
def bfs_Legit.f (k : Nat) (l0_0 : List Int) (l0_1 : List (List (S60))) (l1 : List (List Int)) : Option (Bool) := (bfs_configuration.f k l0_0 l0_1 l1).bind fun t493 => (if t493 = true then ((graph_Distances.f k l0_0 l0_1 0).bind fun t494 => (bfs_Legit.l0 k t494 l1 (l1.length : Int) 0 l0_0 l0_1)) else (some false))
theorem bfs_Legit.mono_l : ∀ k, (∀ y0 y1 y2 y3 y4 y5, LeO (bfs_Legit.l0 k y0 y1 y2 y3 y4 y5) (bfs_Legit.l0 (k + 1) y0 y1 y2 y3 y4 y5))
 | 0 => fun _ _ _ _ _ _ r h => by simp [bfs_Legit.l0] at h
 | k + 1 => by
  have ih0 := bfs_Legit.mono_l k
  ·
   intro y0 y1 y2 y3 y4 y5
   unfold bfs_Legit.l0
   repeat' first
   | (with_reducible exact ih0 _ _ _ _ _ _)
   | (with_reducible exact bfs_configuration.mono _ _ _ _)
   | (with_reducible exact bfs_towards.mono _ _ _ _ _)
   | (with_reducible exact graph_Distances.mono _ _ _ _)
   | (with_reducible exact LeO.refl _)
   | (with_reducible exact LeO.none _)
   | (with_reducible refine LeO.ite ?_ ?_)
   | (with_reducible refine LeO.bind ?_ (fun _ => ?_))
   | exact ih0 _ _ _ _ _ _
   | exact bfs_configuration.mono _ _ _ _
   | exact bfs_towards.mono _ _ _ _ _
   | exact graph_Distances.mono _ _ _ _
   | exact LeO.none _
   | refine LeO.ite ?_ ?_
   | refine LeO.bind ?_ (fun _ => ?_)
theorem bfs_Legit.mono : ∀ a0 a1 a2 k, LeO (bfs_Legit.f k a0 a1 a2) (bfs_Legit.f (k + 1) a0 a1 a2) := by
 intro a0 a1 a2 k
 have ih0 := bfs_Legit.mono_l k
 unfold bfs_Legit.f
 repeat' first
   | (with_reducible exact ih0 _ _ _ _ _ _)
   | (with_reducible exact bfs_configuration.mono _ _ _ _)
   | (with_reducible exact bfs_towards.mono _ _ _ _ _)
   | (with_reducible exact graph_Distances.mono _ _ _ _)
   | (with_reducible exact LeO.refl _)
   | (with_reducible exact LeO.none _)
   | (with_reducible refine LeO.ite ?_ ?_)
   | (with_reducible refine LeO.bind ?_ (fun _ => ?_))
   | exact ih0 _ _ _ _ _ _
   | exact bfs_configuration.mono _ _ _ _
   | exact bfs_towards.mono _ _ _ _ _
   | exact graph_Distances.mono _ _ _ _
   | exact LeO.none _
   | refine LeO.ite ?_ ?_
   | refine LeO.bind ?_ (fun _ => ?_)
def bfs_Legit.T7 : Bool × List (List Nat × List Nat) := (true, [([], []), ([0], [0]), ([1], [1]), ([], []), ([], []), ([3, 4], [3, 4]), ([5], [5]), ([2, 6], [2, 6]), ([7], [7]), ([8], [8]), ([9, 8], [8, 9]), ([10, 8], [8, 10]), ([8], [8]), ([8], [8]), ([8], [8]), ([12, 13, 14, 8, 8], [8, 12, 13, 14]), ([11, 15, 8], [8, 11, 15]), ([8, 16], [8, 16])])
def bfs_Legit.B7 : List Nat := [0, 1, 3, 0, 0, 24, 56, 127, 255, 511, 1023, 2047, 511, 511, 511, 29183, 65535, 131071]
theorem bfs_Legit.tab7 : rtab .any (opsOf Try.f40 7) = bfs_Legit.T7 := by kernel_rfl
theorem bfs_Legit.bits7 : waitsOk bfs_Legit.T7.2 bfs_Legit.B7 = true := by kernel_rfl
set_option maxHeartbeats 8000000 in
set_option maxRecDepth 100000 in
theorem bfs_Legit.calls (k : Nat) (A0_0 : Option Addr) (c0_0 : Nat) (l0_0 : List Int) (A0_1 : Option Addr) (c0_1 : Nat) (l0_1 : List (List (S60))) (A1 : Option Addr) (c1 : Nat) (l1 : List (List Int)) (r : Bool) (w : World) (hr0_0 : Kd.C (Kd.int .i64) w A0_0 l0_0.length l0_0) (hc0_0 : l0_0.length ≤ c0_0) (hr0_1 : Kd.C (Kd.slice 60 k60) w A0_1 l0_1.length l0_1) (hc0_1 : l0_1.length ≤ c0_1) (hr1 : Kd.C (Kd.slice 3 (Kd.int .i64)) w A1 l1.length l1) (hc1 : l1.length ≤ c1) (h : bfs_Legit.f k l0_0 l0_1 l1 = some r) :
  Calls Try.prog 40 #[.agg #[.slice A0_0 l0_0.length c0_0, .slice A0_1 l0_1.length c0_1], .slice A1 l1.length c1] w fun e w' => e = .returned (.bool r) ∧ Below w.heap.size w w' := by
 have hu27 := Try.underlying27
 have HR0_0 := Aside0.mk hr0_0
 have HC0_0 := Aside0.mk hc0_0
 clear hr0_0 hc0_0
 have HR0_1 := Aside0.mk hr0_1
 have HC0_1 := Aside0.mk hc0_1
 clear hr0_1 hc0_1
 have HR1 := Aside0.mk hr1
 have HC1 := Aside0.mk hc1
 clear hr1 hc1
 have HB := Aside0.mk (Below.refl w.heap.size w)
 have H : ((bfs_configuration.f k l0_0 l0_1 l1).bind fun t493 => (if t493 = true then ((graph_Distances.f k l0_0 l0_1 0).bind fun t494 => (bfs_Legit.l0 k t494 l1 (l1.length : Int) 0 l0_0 l0_1)) else (some false))) = some r := h
 clear h
 replace H := Option.bind_eq_some_iff.mp H
 obtain ⟨t493, A30, H⟩ := H
 replace H : (if t493 = true then ((graph_Distances.f k l0_0 l0_1 0).bind fun t494 => (bfs_Legit.l0 k t494 l1 (l1.length : Int) 0 l0_0 l0_1)) else (some false)) = some r := H
 have A3 := Aside0.mk A30
 clear A30
 by_cases c4 : t493 = true
 ·
  subst c4
  have H1 : ((graph_Distances.f k l0_0 l0_1 0).bind fun t494 => (bfs_Legit.l0 k t494 l1 (l1.length : Int) 0 l0_0 l0_1)) = some r := by rw [if_pos rfl] at H; exact H
  clear H
  have H := H1
  clear H1
  replace H := Option.bind_eq_some_iff.mp H
  obtain ⟨t494, A50, H⟩ := H
  replace H : (bfs_Legit.l0 k t494 l1 (l1.length : Int) 0 l0_0 l0_1) = some r := H
  have A5 := Aside0.mk A50
  clear A50
  have H' := Aside0.mk H
  clear H
  go_enter Try.func40, Try.ntmps40
  go_wp2_with (first | ((with_reducible refine gate_dst (N := 2) rfl ?_); refine box_event ?hg (N := 2) ?hd (cs := #[.slice A0_0 l0_0.length c0_0, .slice A0_1 l0_1.length c0_1]) (t := 27) ?hr ?_; (case hd => rfl); (case hg => rfl); (case hr => first | (go_simp; done) | (go_simp; rfl)); intro gb492 hg w6 hbox hb; have n0_ := Aside0.mk (below_step (by repeat (first | (with_reducible first | exact HB.out | apply below_alloc | apply pw_below_drewN | apply below_drew1) | exact HB.out)) hb); have n1_ := Aside0.mk (hbox); have n2_ := Aside0.mk ((by rw [hg]; exact (below_size (by repeat (first | (with_reducible first | exact HB.out | apply below_alloc | apply pw_below_drewN | apply below_drew1) | exact HB.out))) : w.heap.size ≤ gb492)); have n3_ := Aside0.mk ((by rw [hg]; exact (below_size (by repeat (first | (with_reducible first | exact HB.out | apply below_alloc | apply pw_below_drewN | apply below_drew1) | exact HB.out))) : w.heap.size ≤ gb492)); clear HB; have HB := n0_; have BK492 := n1_; have GW492 := n2_; have GE492 := n3_; clear n0_ n1_ n2_ n3_; clear hb hbox hg; have hcz7_0 : w6.cell? ⟨gb492, 0, none⟩ = some (.slice A0_0 l0_0.length c0_0) := (blk_cell BK492.out 0).trans rfl; have hcz7_1 : w6.cell? ⟨gb492, 1, none⟩ = some (.slice A0_1 l0_1.length c0_1) := (blk_cell BK492.out 1).trans rfl; have hfz7_0 := blk_frozen BK492.out 0; have hfz7_1 := blk_frozen BK492.out 1) | ((with_reducible refine gate_callee (f := 89) rfl ?_); refine goesL_ (some 10) rfl rfl Try.func89 (by kernel_rfl) rfl #[.agg #[.slice A0_0 l0_0.length c0_0, .slice A0_1 l0_1.length c0_1], .slice A1 l1.length c1] rfl (by (try simp only [List.map_toArray, List.map_cons, List.map_nil]); first | done | rfl | (simp only [List.length_drop, List.length_take]; rfl)) ?_; (with_reducible refine (bfs_configuration.calls k _ _ l0_0 _ _ l0_1 _ _ l1 true _ ?side1 ?side2 ?side3 ?side4 ?side5 ?side6 A3.out).mono ?_); (case side1 => repeat (first | exact (Kd.C_below HR0_0.out HB.out) | (with_reducible refine Kd.C_alloc ?_ _) | (with_reducible refine Kd.C_drewN ?_ _) | (with_reducible refine Kd.C_drew ?_))); (case side2 => exact HC0_0.out); (case side3 => repeat (first | exact (Kd.C_below HR0_1.out HB.out) | (with_reducible refine Kd.C_alloc ?_ _) | (with_reducible refine Kd.C_drewN ?_ _) | (with_reducible refine Kd.C_drew ?_))); (case side4 => exact HC0_1.out); (case side5 => repeat (first | exact (Kd.C_below HR1.out HB.out) | (with_reducible refine Kd.C_alloc ?_ _) | (with_reducible refine Kd.C_drewN ?_ _) | (with_reducible refine Kd.C_drew ?_))); (case side6 => exact HC1.out); rintro e w8 ⟨rfl, hb⟩; refine ⟨_, rfl, ?_⟩; have n0_ := Aside0.mk (blk_below (g := gb492) (o := .cells #[.slice A0_0 l0_0.length c0_0, .slice A0_1 l0_1.length c0_1] 27 (0, 0)) (by (with_reducible repeat (first | refine blk_drewN ?_ _ | refine blk_drew ?_ | refine blk_alloc ?_ _)); exact BK492.out) hb); have n1_ := Aside0.mk (below_step (by repeat (first | (with_reducible first | exact HB.out | apply below_alloc | apply pw_below_drewN | apply below_drew1 | refine below_set ?_ GE492.out) | exact HB.out)) hb); clear BK492; clear HB; have BK492 := n0_; have HB := n1_; clear n0_ n1_; (try clear hb); (try clear hb2); (try clear hk); (try clear hi); have hcz9_0 : w8.cell? ⟨gb492, 0, none⟩ = some (.slice A0_0 l0_0.length c0_0) := (blk_cell BK492.out 0).trans rfl; have hcz9_1 : w8.cell? ⟨gb492, 1, none⟩ = some (.slice A0_1 l0_1.length c0_1) := (blk_cell BK492.out 1).trans rfl; have hfz9_0 := blk_frozen BK492.out 0; have hfz9_1 := blk_frozen BK492.out 1) | ((with_reducible refine gate_callee (f := 90) rfl ?_); refine goesL_ (some 13) rfl rfl Try.func90 (by kernel_rfl) rfl #[.agg #[.slice A0_0 l0_0.length c0_0, .slice A0_1 l0_1.length c0_1], .int .i64 0] rfl (by (try simp only [List.map_toArray, List.map_cons, List.map_nil]); first | done | rfl | (simp only [List.length_drop, List.length_take]; rfl)) ?_; (with_reducible refine (graph_Distances.calls k _ _ l0_0 _ _ l0_1 0 t494 _ ?side1 ?side2 ?side3 ?side4 A5.out).mono ?_); (case side1 => repeat (first | exact (Kd.C_below HR0_0.out HB.out) | (with_reducible refine Kd.C_alloc ?_ _) | (with_reducible refine Kd.C_drewN ?_ _) | (with_reducible refine Kd.C_drew ?_))); (case side2 => exact HC0_0.out); (case side3 => repeat (first | exact (Kd.C_below HR0_1.out HB.out) | (with_reducible refine Kd.C_alloc ?_ _) | (with_reducible refine Kd.C_drewN ?_ _) | (with_reducible refine Kd.C_drew ?_))); (case side4 => exact HC0_1.out); rintro e w10 ⟨v495, rfl, ho0, hb⟩; refine ⟨_, rfl, ?_⟩; have n0_ := Aside0.mk (Kd.R_lower ho0 (below_size (by repeat (first | (with_reducible first | exact HB.out | apply below_alloc | apply pw_below_drewN | apply below_drew1 | refine below_set ?_ GE492.out) | exact HB.out)))); have n1_ := Aside0.mk (blk_below (g := gb492) (o := .cells #[.slice A0_0 l0_0.length c0_0, .slice A0_1 l0_1.length c0_1] 27 (0, 0)) (by (with_reducible repeat (first | refine blk_drewN ?_ _ | refine blk_drew ?_ | refine blk_alloc ?_ _)); exact BK492.out) hb); have n2_ := Aside0.mk (below_step (by repeat (first | (with_reducible first | exact HB.out | apply below_alloc | apply pw_below_drewN | apply below_drew1 | refine below_set ?_ GE492.out) | exact HB.out)) hb); clear BK492; clear HB; have HO496 := n0_; have BK492 := n1_; have HB := n2_; clear n0_ n1_ n2_; (try clear hb); (try clear hb2); (try clear hk); (try clear hi); (try clear ho0)))
  go_loopg [16] k (fun kq v16 w' => ∃ (x16_1 : Int), v16 = .int .i64 x16_1 ∧ Aside0 (bfs_Legit.l0 kq t494 l1 (l1.length : Int) x16_1 l0_0 l0_1 = some r) ∧ Aside0 (kq ≤ k) ∧ Aside0 (Kd.R (Kd.int .i64) 3 w' w.heap.size (fun _ => True) v495 t494) ∧ Aside0 (w'.heap[gb492]? = some (.cells #[(.slice A0_0 l0_0.length c0_0), (.slice A0_1 l0_1.length c0_1)] 27 (0, 0))) ∧ Aside0 (Below w.heap.size w w'))
  case atStart => exact ⟨(0), (by first | rfl | (simp; done) | (simp [*]; done)), H', ⟨Nat.le_refl _⟩, ⟨by (with_reducible repeat (first | apply Kd.R_alloc | apply Kd.R_drewN | apply Kd.R_drew)); exact HO496.out⟩, ⟨by (with_reducible repeat (first | refine blk_drewN ?_ _ | refine blk_drew ?_ | refine blk_alloc ?_ _)); exact BK492.out⟩, ⟨by repeat (first | (with_reducible first | exact HB.out | apply below_alloc | apply pw_below_drewN | apply below_drew1 | refine below_set ?_ GE492.out) | exact HB.out)⟩⟩
  case round =>
   clear H'
   try clear c1
   try clear p2
   try clear c4
   try clear c8
   try clear c9
   try clear hcz7_0
   try clear hcz7_1
   try clear hcz9_0
   try clear hcz9_1
   try clear hfz7_0
   try clear hfz7_1
   try clear hfz9_0
   try clear hfz9_1
   obtain ⟨x16_1, rfl, HA, HK1, HO_5, BK492, HB⟩ := hrel
   cases gk with
   | zero => exact absurd HA.out (by simp [bfs_Legit.l0])
   | succ k1 =>
    have H := HA.out
    clear HA
    simp only [bfs_Legit.l0] at H
    by_cases c11 : x16_1 < (l1.length : Int)
    ·
     rw [if_pos c11] at H
     have c11b0 : decide (x16_1 < (l1.length : Int)) = true := decide_eq_true c11
     clear c11
     by_cases c12 : 0 ≤ x16_1
     ·
      rw [if_pos c12] at H
      have c12b0 : decide (0 ≤ x16_1) = true := decide_eq_true c12
      clear c12
      by_cases c13 : x16_1 < (l1.length : Int)
      ·
       rw [if_pos c13] at H
       have c13b0 : decide (x16_1 < (l1.length : Int)) = true := decide_eq_true c13
       clear c13
       by_cases c14 : 0 < ((rd_L3 l1 x16_1).length : Int)
       ·
        rw [if_pos c14] at H
        have c14b0 : decide (0 < ((rd_L3 l1 x16_1).length : Int)) = true := decide_eq_true c14
        have c14b1 : decide (0 < (rd_L3 l1 x16_1).length) = true := decide_eq_true (by omega)
        clear c14
        by_cases c15 : x16_1 < (t494.length : Int)
        ·
         rw [if_pos c15] at H
         have c15b0 : decide (x16_1 < (t494.length : Int)) = true := decide_eq_true c15
         clear c15
         by_cases c16 : (rd (rd_L3 l1 x16_1) 0) = (rd t494 x16_1)
         ·
          rw [if_pos c16] at H
          have c16b0 : ((rd (rd_L3 l1 x16_1) 0) == (rd t494 x16_1)) = true := beq_iff_eq.mpr c16
          have c16b1 : ((rd (rd_L3 l1 x16_1) 0) != (rd t494 x16_1)) = false := bne_eq_false_iff_eq.mpr c16
          clear c16
          by_cases c17 : 1 < ((rd_L3 l1 x16_1).length : Int)
          ·
           rw [if_pos c17] at H
           have c17b0 : decide (1 < ((rd_L3 l1 x16_1).length : Int)) = true := decide_eq_true c17
           have c17b1 : decide (1 < (rd_L3 l1 x16_1).length) = true := decide_eq_true (by omega)
           clear c17
           replace H := Option.bind_eq_some_iff.mp H
           obtain ⟨t501, A180, H⟩ := H
           replace H : (if (rd (rd_L3 l1 x16_1) 1) = t501 then (bfs_Legit.l0 k1 t494 l1 (l1.length : Int) (wrap64 (x16_1 + 1)) l0_0 l0_1) else (some false)) = some r := H
           have A18 := Aside0.mk A180
           clear A180
           by_cases c19 : (rd (rd_L3 l1 x16_1) 1) = t501
           ·
            rw [if_pos c19] at H
            have c19b0 : ((rd (rd_L3 l1 x16_1) 1) == t501) = true := beq_iff_eq.mpr c19
            have c19b1 : ((rd (rd_L3 l1 x16_1) 1) != t501) = false := bne_eq_false_iff_eq.mpr c19
            clear c19
            have H' := Aside0.mk H
            clear H
            have p497 : 0 ≤ (x16_1 : Int) := of_decide_eq_true (by first | (with_reducible assumption) | assumption)
            have q497 : x16_1 < (l1.length : Int) := of_decide_eq_true (by first | (with_reducible assumption) | assumption)
            obtain ⟨ad497, A497_0, c497_0, e497, hx497_0, hl497_0, hi497_0⟩ := at_L3 HR1.out x16_1 p497 q497
            cases e497
            replace hx497_0 := (HB.out.cell (World.block_lt_of_cell? w _ hx497_0)).trans hx497_0
            have HR497_0 := Aside0.mk hi497_0
            have HC497_0 := Aside0.mk hl497_0
            clear hi497_0 hl497_0
            replace p497 := eq_true p497
            replace q497 := eq_true q497
            try go_wp2
            have n0_ := Aside0.mk (Kd.R_drew HO_5.out)
            have n1_ := Aside0.mk (blk_drew BK492.out)
            have n2_ := Aside0.mk (below_drew1 HB.out)
            clear HO_5
            clear BK492
            clear HB
            have HO_5 := n0_
            have BK492 := n1_
            have HB := n2_
            clear n0_ n1_ n2_
            have p498 : 0 ≤ (0 : Int) := (by omega)
            have q498 : 0 < ((rd_L3 l1 x16_1).length : Int) := of_decide_eq_true (by first | (with_reducible assumption) | assumption)
            obtain ⟨ad498, e498, hx498_0⟩ := Kd.at_int HR497_0.out 0 p498 q498
            have hw498_0 := hx498_0
            (try rw [show ((0 : Int)).toNat = 0 from rfl] at hw498_0)
            (try rw [show 0 * 1 = 0 from rfl] at hw498_0)
            (try rw [Addr.add_zero'] at hw498_0)
            cases e498
            have qi498 : (0 < (rd_L3 l1 x16_1).length) = True := eq_true (by omega)
            (try rw [show ((0 : Int)).toNat = 0 from rfl] at hx498_0)
            (try rw [Addr.add_zero'] at hx498_0)
            replace hx498_0 := (HB.out.cell (World.block_lt_of_cell? w _ hx498_0)).trans hx498_0
            replace p498 := eq_true p498
            replace q498 := eq_true q498
            obtain ⟨Ao21, co21, eo21⟩ := Kd.R_slice HO_5.out
            (first | subst eo21 | (injection eo21 with f1_ f2_ f3_; have f4_ := f1_.symm; have f5_ := f3_.symm; clear f1_ f2_ f3_; subst f4_; subst f5_))
            have p499 : 0 ≤ (x16_1 : Int) := of_decide_eq_true (by first | (with_reducible assumption) | assumption)
            have q499 : x16_1 < (t494.length : Int) := of_decide_eq_true (by first | (with_reducible assumption) | assumption)
            obtain ⟨ad499, e499, hx499_0⟩ := Kd.at_int (Kd.R_reads' HO_5.out).2.2 x16_1 p499 q499
            cases e499
            replace p499 := eq_true p499
            replace q499 := eq_true q499
            have p500 : 0 ≤ (1 : Int) := (by omega)
            have q500 : 1 < ((rd_L3 l1 x16_1).length : Int) := of_decide_eq_true (by first | (with_reducible assumption) | assumption)
            obtain ⟨ad500, e500, hx500_0⟩ := Kd.at_int HR497_0.out 1 p500 q500
            have hw500_0 := hx500_0
            (try rw [show ((1 : Int)).toNat = 1 from rfl] at hw500_0)
            (try rw [show 1 * 1 = 1 from rfl] at hw500_0)
            (try simp only [Nat.reduceMul, Nat.reduceEqDiff, Go.Addr.add, ↓reduceIte] at hw500_0)
            obtain rfl : ad498 = ad500 := (by injection e500)
            (try simp only [show (1 : Int).toNat = 1 from rfl, Nat.reduceMul, Nat.reduceEqDiff, Go.Addr.add, ↓reduceIte] at hx500_0)
            have qi500 : (1 < (rd_L3 l1 x16_1).length) = True := eq_true (by omega)
            (try rw [show ((1 : Int)).toNat = 1 from rfl] at hx500_0)
            replace hx500_0 := (HB.out.cell (World.block_lt_of_cell? w _ hx500_0)).trans hx500_0
            replace p500 := eq_true p500
            replace q500 := eq_true q500
            refine start_ (n := 18) (S := fun w' => w'.cell? ⟨gb492, 0, none⟩ = some (.slice A0_0 l0_0.length c0_0) ∧ w'.cell? ⟨gb492, 1, none⟩ = some (.slice A0_1 l0_1.length c0_1) ∧ w'.cell? ad498 = some (.int .i64 (rd (rd_L3 l1 x16_1) 0)) ∧ w'.cell? (ad499.add (x16_1).toNat) = some (.int .i64 (rd t494 x16_1)) ∧ w'.cell? ⟨ad498.block, ad498.off + 1, none⟩ = some (.int .i64 (rd (rd_L3 l1 x16_1) 1))) (ds := []) #[false, false, false, false, false, false, false, false, false, false, false, false, false, false, false, false, false, false] (by kernel_rfl) rfl rfl ⟨(blk_cell BK492.out 0).trans rfl, (blk_cell BK492.out 1).trans rfl, ((HB.out.cell (World.block_lt_of_cell? w _ hw498_0)).trans hw498_0), hx499_0, ((HB.out.cell (World.block_lt_of_cell? w _ hw500_0)).trans hw500_0)⟩ (fun hHeld => ?_); refine with_tabW bfs_Legit.tab7 bfs_Legit.bits7 (fun HT_ HW_ => ?_)
            generalize wr.drew = w20 at HO_5 BK492 HB hx498_0 hx499_0 hx500_0 hHeld ⊢
            refine pure_ (i := 0) (N := some 21) (v := ?_) (a' := ?_) #[true, false, false, false, false, false, false, false, false, false, false, false, false, false, false, false, false, false] rfl rfl (any_of HT_.out (by kernel_rfl)) (fun _ _ _ h => h) (Or.inl ⟨by rfl, ?_⟩) ?_ ?_
            rotate_left
            ·
             intro w'
             go_simp
             with_reducible rfl
            rotate_left
            ·
             simp only [Act.put, List.setIfInBounds_toArray, List.set_cons_zero, List.set_cons_succ, i64_w, i32_w]
             rfl
            refine pure_ (i := 1) (N := some 22) (v := ?_) (a' := ?_) #[true, true, false, false, false, false, false, false, false, false, false, false, false, false, false, false, false, false] rfl rfl (any_of HT_.out (by kernel_rfl)) (fun _ _ _ h => h) (Or.inl ⟨by rfl, ?_⟩) ?_ ?_
            rotate_left
            ·
             intro w'
             go_simp
             with_reducible rfl
            rotate_left
            ·
             simp only [Act.put, List.setIfInBounds_toArray, List.set_cons_zero, List.set_cons_succ, i64_w, i32_w]
             rfl
            refine pure_ (i := 3) (N := some 24) (v := ?_) (a' := ?_) #[true, true, false, true, false, false, false, false, false, false, false, false, false, false, false, false, false, false] rfl rfl (any_of HT_.out (by kernel_rfl)) (fun _ _ _ h => h) (Or.inl ⟨by rfl, ?_⟩) ?_ ?_
            rotate_left
            ·
             intro w'
             go_simp
             with_reducible rfl
            rotate_left
            ·
             simp only [Act.put, List.setIfInBounds_toArray, List.set_cons_zero, List.set_cons_succ, i64_w, i32_w]
             rfl
            refine pure_ (i := 4) (N := some 25) (v := ?_) (a' := ?_) #[true, true, false, true, true, false, false, false, false, false, false, false, false, false, false, false, false, false] rfl rfl (any_of HT_.out (by kernel_rfl)) (fun _ _ _ h => h) (Or.inl ⟨by rfl, ?_⟩) ?_ ?_
            rotate_left
            ·
             intro w'
             go_simp
             with_reducible rfl
            rotate_left
            ·
             simp only [Act.put, List.setIfInBounds_toArray, List.set_cons_zero, List.set_cons_succ, i64_w, i32_w]
             rfl
            refine pure_ (i := 5) (N := some 26) (v := ?_) (a' := ?_) #[true, true, false, true, true, true, false, false, false, false, false, false, false, false, false, false, false, false] rfl rfl (any_of HT_.out (by kernel_rfl)) (fun _ _ _ h => h) (Or.inl ⟨by rfl, ?_⟩) ?_ ?_
            rotate_left
            ·
             intro w'
             go_simp
             with_reducible rfl
            rotate_left
            ·
             simp only [Act.put, List.setIfInBounds_toArray, List.set_cons_zero, List.set_cons_succ, i64_w, i32_w]
             rfl
            refine take_ (i := 2) (N := some 23) (v := ?_) (a' := ?_) #[true, true, true, true, true, true, false, false, false, false, false, false, false, false, false, false, false, false] rfl rfl (take_ofW HT_.out HW_.out (by kernel_rfl)) (fun _ _ _ h => h) (Or.inl ⟨by rfl, ?_⟩) hHeld ?_ ?_
            rotate_left
            ·
             rintro w' ⟨s0, s1, s2, s3, s4⟩
             go_simp
             with_reducible rfl
            rotate_left
            ·
             simp only [Act.put, List.setIfInBounds_toArray, List.set_cons_zero, List.set_cons_succ, i64_w, i32_w]
             rfl
            refine take_ (i := 6) (N := some 27) (v := ?_) (a' := ?_) #[true, true, true, true, true, true, true, false, false, false, false, false, false, false, false, false, false, false] rfl rfl (take_ofW HT_.out HW_.out (by kernel_rfl)) (fun _ _ _ h => h) (Or.inl ⟨by rfl, ?_⟩) hHeld ?_ ?_
            rotate_left
            ·
             rintro w' ⟨s0, s1, s2, s3, s4⟩
             go_simp
             with_reducible rfl
            rotate_left
            ·
             simp only [Act.put, List.setIfInBounds_toArray, List.set_cons_zero, List.set_cons_succ, i64_w, i32_w]
             rfl
            refine pure_ (i := 7) (N := some 28) (v := ?_) (a' := ?_) #[true, true, true, true, true, true, true, true, false, false, false, false, false, false, false, false, false, false] rfl rfl (any_of HT_.out (by kernel_rfl)) (fun _ _ _ h => h) (Or.inl ⟨by rfl, ?_⟩) ?_ ?_
            rotate_left
            ·
             intro w'
             go_simp
             with_reducible rfl
            rotate_left
            ·
             simp only [Act.put, List.setIfInBounds_toArray, List.set_cons_zero, List.set_cons_succ, i64_w, i32_w]
             rfl
            refine pure_ (i := 8) (N := some 29) (v := ?_) (a' := ?_) #[true, true, true, true, true, true, true, true, true, false, false, false, false, false, false, false, false, false] rfl rfl (any_of HT_.out (by kernel_rfl)) (fun _ _ _ h => h) (Or.inl ⟨by rfl, ?_⟩) ?_ ?_
            rotate_left
            ·
             intro w'
             go_simp
             with_reducible rfl
            rotate_left
            ·
             simp only [Act.put, List.setIfInBounds_toArray, List.set_cons_zero, List.set_cons_succ, i64_w, i32_w]
             rfl
            refine pure_ (i := 9) (N := some 30) (v := ?_) (a' := ?_) #[true, true, true, true, true, true, true, true, true, true, false, false, false, false, false, false, false, false] rfl rfl (any_of HT_.out (by kernel_rfl)) (fun _ _ _ h => h) (Or.inl ⟨by rfl, ?_⟩) ?_ ?_
            rotate_left
            ·
             intro w'
             go_simp
             with_reducible rfl
            rotate_left
            ·
             simp only [Act.put, List.setIfInBounds_toArray, List.set_cons_zero, List.set_cons_succ, i64_w, i32_w]
             rfl
            refine pure_ (i := 10) (N := some 31) (v := ?_) (a' := ?_) #[true, true, true, true, true, true, true, true, true, true, true, false, false, false, false, false, false, false] rfl rfl (any_of HT_.out (by kernel_rfl)) (fun _ _ _ h => h) (Or.inl ⟨by rfl, ?_⟩) ?_ ?_
            rotate_left
            ·
             intro w'
             go_simp
             with_reducible rfl
            rotate_left
            ·
             simp only [Act.put, List.setIfInBounds_toArray, List.set_cons_zero, List.set_cons_succ, i64_w, i32_w]
             rfl
            refine pure_ (i := 13) (N := some 34) (v := ?_) (a' := ?_) #[true, true, true, true, true, true, true, true, true, true, true, false, false, true, false, false, false, false] rfl rfl (any_of HT_.out (by kernel_rfl)) (fun _ _ _ h => h) (Or.inl ⟨by rfl, ?_⟩) ?_ ?_
            rotate_left
            ·
             intro w'
             go_simp
             with_reducible rfl
            rotate_left
            ·
             simp only [Act.put, List.setIfInBounds_toArray, List.set_cons_zero, List.set_cons_succ, i64_w, i32_w]
             rfl
            refine pure_ (i := 14) (N := some 35) (v := ?_) (a' := ?_) #[true, true, true, true, true, true, true, true, true, true, true, false, false, true, true, false, false, false] rfl rfl (any_of HT_.out (by kernel_rfl)) (fun _ _ _ h => h) (Or.inl ⟨by rfl, ?_⟩) ?_ ?_
            rotate_left
            ·
             intro w'
             go_simp
             with_reducible rfl
            rotate_left
            ·
             simp only [Act.put, List.setIfInBounds_toArray, List.set_cons_zero, List.set_cons_succ, i64_w, i32_w]
             rfl
            refine take_ (i := 11) (N := some 32) (v := ?_) (a' := ?_) #[true, true, true, true, true, true, true, true, true, true, true, true, false, true, true, false, false, false] rfl rfl (take_ofW HT_.out HW_.out (by kernel_rfl)) (fun _ _ _ h => h) (Or.inl ⟨by rfl, ?_⟩) hHeld ?_ ?_
            rotate_left
            ·
             rintro w' ⟨s0, s1, s2, s3, s4⟩
             go_simp
             with_reducible rfl
            rotate_left
            ·
             simp only [Act.put, List.setIfInBounds_toArray, List.set_cons_zero, List.set_cons_succ, i64_w, i32_w]
             rfl
            refine take_ (i := 12) (N := some 33) (v := ?_) (a' := ?_) #[true, true, true, true, true, true, true, true, true, true, true, true, true, true, true, false, false, false] rfl rfl (take_ofW HT_.out HW_.out (by kernel_rfl)) (fun _ _ _ h => h) (Or.inl ⟨by rfl, ?_⟩) hHeld ?_ ?_
            rotate_left
            ·
             rintro w' ⟨s0, s1, s2, s3, s4⟩
             go_simp
             with_reducible rfl
            rotate_left
            ·
             simp only [Act.put, List.setIfInBounds_toArray, List.set_cons_zero, List.set_cons_succ, i64_w, i32_w]
             rfl
            refine one_ (i := 15) (N := some 36) #[true, true, true, true, true, true, true, true, true, true, true, true, true, true, true, true, false, false] rfl rfl (one_of HT_.out (by kernel_rfl)) (by decide) (fun K hK => ?_)
            refine goes_ Try.func91 (by kernel_rfl) rfl #[.agg #[.slice A0_0 l0_0.length c0_0, .slice A0_1 l0_1.length c0_1], .slice (some ad499) t494.length co21, .int .i64 x16_1] (by rfl) rfl rfl (by (try simp only [List.map_toArray, List.map_cons, List.map_nil]); first | done | rfl | (simp only [List.length_drop, List.length_take]; rfl)) ?_
            with_reducible refine (bfs_towards.calls k1 _ _ l0_0 _ _ l0_1 _ _ t494 x16_1 t501 _ ?side1 ?side2 ?side3 ?side4 ?side5 ?side6 A18.out).mono ?_
            (case side1 => repeat (first | exact (Kd.C_below HR0_0.out HB.out) | (with_reducible refine Kd.C_alloc ?_ _) | (with_reducible refine Kd.C_drewN ?_ _) | (with_reducible refine Kd.C_drew ?_)))
            (case side2 => exact HC0_0.out)
            (case side3 => repeat (first | exact (Kd.C_below HR0_1.out HB.out) | (with_reducible refine Kd.C_alloc ?_ _) | (with_reducible refine Kd.C_drewN ?_ _) | (with_reducible refine Kd.C_drew ?_)))
            (case side4 => exact HC0_1.out)
            (case side5 => repeat (first | exact (Kd.R_reads' HO_5.out).2.2 | (with_reducible refine Kd.C_alloc ?_ _) | (with_reducible refine Kd.C_drewN ?_ _) | (with_reducible refine Kd.C_drew ?_)))
            (case side6 => exact (Kd.R_reads' HO_5.out).2.1)
            rintro e w22 ⟨rfl, hb⟩
            have HS3_ := (hb.cell (World.block_lt_of_cell? _ _ (hHeld.2.2.2.1))).trans (hHeld.2.2.2.1)
            refine ⟨_, rfl, ?_⟩
            have n0_ := Aside0.mk (Kd.R_below (by (with_reducible repeat (first | apply Kd.R_alloc | apply Kd.R_drewN | apply Kd.R_drew)); exact HO_5.out) hb)
            have n1_ := Aside0.mk (blk_below (g := gb492) (o := .cells #[.slice A0_0 l0_0.length c0_0, .slice A0_1 l0_1.length c0_1] 27 (0, 0)) (by (with_reducible repeat (first | refine blk_drewN ?_ _ | refine blk_drew ?_ | refine blk_alloc ?_ _)); exact BK492.out) hb)
            have n2_ := Aside0.mk (below_step (by repeat (first | (with_reducible first | exact HB.out | apply below_alloc | apply pw_below_drewN | apply below_drew1 | refine below_set ?_ GE492.out) | exact HB.out)) hb)
            clear HO_5
            clear BK492
            clear HB
            have HO_5 := n0_
            have BK492 := n1_
            have HB := n2_
            clear n0_ n1_ n2_
            (try clear hb)
            (try clear hb2)
            (try clear hk)
            (try clear hi)
            refine hK.out _ _ ⟨(blk_cell BK492.out 0).trans rfl, (blk_cell BK492.out 1).trans rfl, ((HB.out.cell (World.block_lt_of_cell? w _ hw498_0)).trans hw498_0), HS3_, ((HB.out.cell (World.block_lt_of_cell? w _ hw500_0)).trans hw500_0)⟩ (fun hHeld => ?_)
            clear hK K
            refine norm_ (a' := ?_) ?_ ?_
            rotate_left
            ·
             show Act.put _ (some 36) _ = _
             simp only [Act.put, List.setIfInBounds_toArray, List.set_cons_zero, List.set_cons_succ, i64_w, i32_w]
             rfl
            refine pure_ (i := 16) (N := some 37) (v := ?_) (a' := ?_) #[true, true, true, true, true, true, true, true, true, true, true, true, true, true, true, true, true, false] rfl rfl (any_of HT_.out (by kernel_rfl)) (fun _ _ _ h => h) (Or.inl ⟨by rfl, ?_⟩) ?_ ?_
            rotate_left
            ·
             intro w'
             go_simp
             with_reducible rfl
            rotate_left
            ·
             simp only [Act.put, List.setIfInBounds_toArray, List.set_cons_zero, List.set_cons_succ, i64_w, i32_w]
             rfl
            refine pure_ (i := 17) (N := some 38) (v := ?_) (a' := ?_) #[true, true, true, true, true, true, true, true, true, true, true, true, true, true, true, true, true, true] rfl rfl (any_of HT_.out (by kernel_rfl)) (fun _ _ _ h => h) (Or.inl ⟨by rfl, ?_⟩) ?_ ?_
            rotate_left
            ·
             intro w'
             go_simp
             with_reducible rfl
            rotate_left
            ·
             simp only [Act.put, List.setIfInBounds_toArray, List.set_cons_zero, List.set_cons_succ, i64_w, i32_w]
             rfl
            refine done_ (done_of HT_.out (by kernel_rfl)) ?_
            try go_wp2
            go_roundg k1
            case measure => have := HK1.out; omega
            case rel => exact ⟨(wrap64 (x16_1 + 1)), (by first | rfl | (simp; done) | (simp [*]; done)), H', ⟨by have := HK1.out; omega⟩, ⟨by (with_reducible repeat (first | apply Kd.R_alloc | apply Kd.R_drewN | apply Kd.R_drew)); exact HO_5.out⟩, ⟨by (with_reducible repeat (first | refine blk_drewN ?_ _ | refine blk_drew ?_ | refine blk_alloc ?_ _)); exact BK492.out⟩, ⟨by repeat (first | (with_reducible first | exact HB.out | apply below_alloc | apply pw_below_drewN | apply below_drew1 | refine below_set ?_ GE492.out) | exact HB.out)⟩⟩
           ·
            rw [if_neg c19] at H
            have c19b0 : ((rd (rd_L3 l1 x16_1) 1) == t501) = false := beq_eq_false_iff_ne.mpr c19
            have c19b1 : ((rd (rd_L3 l1 x16_1) 1) != t501) = true := bne_iff_ne.mpr c19
            obtain rfl := Option.some.inj H
            have p497 : 0 ≤ (x16_1 : Int) := of_decide_eq_true (by first | (with_reducible assumption) | assumption)
            have q497 : x16_1 < (l1.length : Int) := of_decide_eq_true (by first | (with_reducible assumption) | assumption)
            obtain ⟨ad497, A497_0, c497_0, e497, hx497_0, hl497_0, hi497_0⟩ := at_L3 HR1.out x16_1 p497 q497
            cases e497
            replace hx497_0 := (HB.out.cell (World.block_lt_of_cell? w _ hx497_0)).trans hx497_0
            have HR497_0 := Aside0.mk hi497_0
            have HC497_0 := Aside0.mk hl497_0
            clear hi497_0 hl497_0
            replace p497 := eq_true p497
            replace q497 := eq_true q497
            try go_wp2
            have n0_ := Aside0.mk (Kd.R_drew HO_5.out)
            have n1_ := Aside0.mk (blk_drew BK492.out)
            have n2_ := Aside0.mk (below_drew1 HB.out)
            clear HO_5
            clear BK492
            clear HB
            have HO_5 := n0_
            have BK492 := n1_
            have HB := n2_
            clear n0_ n1_ n2_
            have p498 : 0 ≤ (0 : Int) := (by omega)
            have q498 : 0 < ((rd_L3 l1 x16_1).length : Int) := of_decide_eq_true (by first | (with_reducible assumption) | assumption)
            obtain ⟨ad498, e498, hx498_0⟩ := Kd.at_int HR497_0.out 0 p498 q498
            have hw498_0 := hx498_0
            (try rw [show ((0 : Int)).toNat = 0 from rfl] at hw498_0)
            (try rw [show 0 * 1 = 0 from rfl] at hw498_0)
            (try rw [Addr.add_zero'] at hw498_0)
            cases e498
            have qi498 : (0 < (rd_L3 l1 x16_1).length) = True := eq_true (by omega)
            (try rw [show ((0 : Int)).toNat = 0 from rfl] at hx498_0)
            (try rw [Addr.add_zero'] at hx498_0)
            replace hx498_0 := (HB.out.cell (World.block_lt_of_cell? w _ hx498_0)).trans hx498_0
            replace p498 := eq_true p498
            replace q498 := eq_true q498
            obtain ⟨Ao24, co24, eo24⟩ := Kd.R_slice HO_5.out
            (first | subst eo24 | (injection eo24 with f1_ f2_ f3_; have f4_ := f1_.symm; have f5_ := f3_.symm; clear f1_ f2_ f3_; subst f4_; subst f5_))
            have p499 : 0 ≤ (x16_1 : Int) := of_decide_eq_true (by first | (with_reducible assumption) | assumption)
            have q499 : x16_1 < (t494.length : Int) := of_decide_eq_true (by first | (with_reducible assumption) | assumption)
            obtain ⟨ad499, e499, hx499_0⟩ := Kd.at_int (Kd.R_reads' HO_5.out).2.2 x16_1 p499 q499
            cases e499
            replace p499 := eq_true p499
            replace q499 := eq_true q499
            have p500 : 0 ≤ (1 : Int) := (by omega)
            have q500 : 1 < ((rd_L3 l1 x16_1).length : Int) := of_decide_eq_true (by first | (with_reducible assumption) | assumption)
            obtain ⟨ad500, e500, hx500_0⟩ := Kd.at_int HR497_0.out 1 p500 q500
            have hw500_0 := hx500_0
            (try rw [show ((1 : Int)).toNat = 1 from rfl] at hw500_0)
            (try rw [show 1 * 1 = 1 from rfl] at hw500_0)
            (try simp only [Nat.reduceMul, Nat.reduceEqDiff, Go.Addr.add, ↓reduceIte] at hw500_0)
            obtain rfl : ad498 = ad500 := (by injection e500)
            (try simp only [show (1 : Int).toNat = 1 from rfl, Nat.reduceMul, Nat.reduceEqDiff, Go.Addr.add, ↓reduceIte] at hx500_0)
            have qi500 : (1 < (rd_L3 l1 x16_1).length) = True := eq_true (by omega)
            (try rw [show ((1 : Int)).toNat = 1 from rfl] at hx500_0)
            replace hx500_0 := (HB.out.cell (World.block_lt_of_cell? w _ hx500_0)).trans hx500_0
            replace p500 := eq_true p500
            replace q500 := eq_true q500
            refine start_ (n := 18) (S := fun w' => w'.cell? ⟨gb492, 0, none⟩ = some (.slice A0_0 l0_0.length c0_0) ∧ w'.cell? ⟨gb492, 1, none⟩ = some (.slice A0_1 l0_1.length c0_1) ∧ w'.cell? ad498 = some (.int .i64 (rd (rd_L3 l1 x16_1) 0)) ∧ w'.cell? (ad499.add (x16_1).toNat) = some (.int .i64 (rd t494 x16_1)) ∧ w'.cell? ⟨ad498.block, ad498.off + 1, none⟩ = some (.int .i64 (rd (rd_L3 l1 x16_1) 1))) (ds := []) #[false, false, false, false, false, false, false, false, false, false, false, false, false, false, false, false, false, false] (by kernel_rfl) rfl rfl ⟨(blk_cell BK492.out 0).trans rfl, (blk_cell BK492.out 1).trans rfl, ((HB.out.cell (World.block_lt_of_cell? w _ hw498_0)).trans hw498_0), hx499_0, ((HB.out.cell (World.block_lt_of_cell? w _ hw500_0)).trans hw500_0)⟩ (fun hHeld => ?_); refine with_tabW bfs_Legit.tab7 bfs_Legit.bits7 (fun HT_ HW_ => ?_)
            generalize wr.drew = w23 at HO_5 BK492 HB hx498_0 hx499_0 hx500_0 hHeld ⊢
            refine pure_ (i := 0) (N := some 21) (v := ?_) (a' := ?_) #[true, false, false, false, false, false, false, false, false, false, false, false, false, false, false, false, false, false] rfl rfl (any_of HT_.out (by kernel_rfl)) (fun _ _ _ h => h) (Or.inl ⟨by rfl, ?_⟩) ?_ ?_
            rotate_left
            ·
             intro w'
             go_simp
             with_reducible rfl
            rotate_left
            ·
             simp only [Act.put, List.setIfInBounds_toArray, List.set_cons_zero, List.set_cons_succ, i64_w, i32_w]
             rfl
            refine pure_ (i := 1) (N := some 22) (v := ?_) (a' := ?_) #[true, true, false, false, false, false, false, false, false, false, false, false, false, false, false, false, false, false] rfl rfl (any_of HT_.out (by kernel_rfl)) (fun _ _ _ h => h) (Or.inl ⟨by rfl, ?_⟩) ?_ ?_
            rotate_left
            ·
             intro w'
             go_simp
             with_reducible rfl
            rotate_left
            ·
             simp only [Act.put, List.setIfInBounds_toArray, List.set_cons_zero, List.set_cons_succ, i64_w, i32_w]
             rfl
            refine pure_ (i := 3) (N := some 24) (v := ?_) (a' := ?_) #[true, true, false, true, false, false, false, false, false, false, false, false, false, false, false, false, false, false] rfl rfl (any_of HT_.out (by kernel_rfl)) (fun _ _ _ h => h) (Or.inl ⟨by rfl, ?_⟩) ?_ ?_
            rotate_left
            ·
             intro w'
             go_simp
             with_reducible rfl
            rotate_left
            ·
             simp only [Act.put, List.setIfInBounds_toArray, List.set_cons_zero, List.set_cons_succ, i64_w, i32_w]
             rfl
            refine pure_ (i := 4) (N := some 25) (v := ?_) (a' := ?_) #[true, true, false, true, true, false, false, false, false, false, false, false, false, false, false, false, false, false] rfl rfl (any_of HT_.out (by kernel_rfl)) (fun _ _ _ h => h) (Or.inl ⟨by rfl, ?_⟩) ?_ ?_
            rotate_left
            ·
             intro w'
             go_simp
             with_reducible rfl
            rotate_left
            ·
             simp only [Act.put, List.setIfInBounds_toArray, List.set_cons_zero, List.set_cons_succ, i64_w, i32_w]
             rfl
            refine pure_ (i := 5) (N := some 26) (v := ?_) (a' := ?_) #[true, true, false, true, true, true, false, false, false, false, false, false, false, false, false, false, false, false] rfl rfl (any_of HT_.out (by kernel_rfl)) (fun _ _ _ h => h) (Or.inl ⟨by rfl, ?_⟩) ?_ ?_
            rotate_left
            ·
             intro w'
             go_simp
             with_reducible rfl
            rotate_left
            ·
             simp only [Act.put, List.setIfInBounds_toArray, List.set_cons_zero, List.set_cons_succ, i64_w, i32_w]
             rfl
            refine take_ (i := 2) (N := some 23) (v := ?_) (a' := ?_) #[true, true, true, true, true, true, false, false, false, false, false, false, false, false, false, false, false, false] rfl rfl (take_ofW HT_.out HW_.out (by kernel_rfl)) (fun _ _ _ h => h) (Or.inl ⟨by rfl, ?_⟩) hHeld ?_ ?_
            rotate_left
            ·
             rintro w' ⟨s0, s1, s2, s3, s4⟩
             go_simp
             with_reducible rfl
            rotate_left
            ·
             simp only [Act.put, List.setIfInBounds_toArray, List.set_cons_zero, List.set_cons_succ, i64_w, i32_w]
             rfl
            refine take_ (i := 6) (N := some 27) (v := ?_) (a' := ?_) #[true, true, true, true, true, true, true, false, false, false, false, false, false, false, false, false, false, false] rfl rfl (take_ofW HT_.out HW_.out (by kernel_rfl)) (fun _ _ _ h => h) (Or.inl ⟨by rfl, ?_⟩) hHeld ?_ ?_
            rotate_left
            ·
             rintro w' ⟨s0, s1, s2, s3, s4⟩
             go_simp
             with_reducible rfl
            rotate_left
            ·
             simp only [Act.put, List.setIfInBounds_toArray, List.set_cons_zero, List.set_cons_succ, i64_w, i32_w]
             rfl
            refine pure_ (i := 7) (N := some 28) (v := ?_) (a' := ?_) #[true, true, true, true, true, true, true, true, false, false, false, false, false, false, false, false, false, false] rfl rfl (any_of HT_.out (by kernel_rfl)) (fun _ _ _ h => h) (Or.inl ⟨by rfl, ?_⟩) ?_ ?_
            rotate_left
            ·
             intro w'
             go_simp
             with_reducible rfl
            rotate_left
            ·
             simp only [Act.put, List.setIfInBounds_toArray, List.set_cons_zero, List.set_cons_succ, i64_w, i32_w]
             rfl
            refine pure_ (i := 8) (N := some 29) (v := ?_) (a' := ?_) #[true, true, true, true, true, true, true, true, true, false, false, false, false, false, false, false, false, false] rfl rfl (any_of HT_.out (by kernel_rfl)) (fun _ _ _ h => h) (Or.inl ⟨by rfl, ?_⟩) ?_ ?_
            rotate_left
            ·
             intro w'
             go_simp
             with_reducible rfl
            rotate_left
            ·
             simp only [Act.put, List.setIfInBounds_toArray, List.set_cons_zero, List.set_cons_succ, i64_w, i32_w]
             rfl
            refine pure_ (i := 9) (N := some 30) (v := ?_) (a' := ?_) #[true, true, true, true, true, true, true, true, true, true, false, false, false, false, false, false, false, false] rfl rfl (any_of HT_.out (by kernel_rfl)) (fun _ _ _ h => h) (Or.inl ⟨by rfl, ?_⟩) ?_ ?_
            rotate_left
            ·
             intro w'
             go_simp
             with_reducible rfl
            rotate_left
            ·
             simp only [Act.put, List.setIfInBounds_toArray, List.set_cons_zero, List.set_cons_succ, i64_w, i32_w]
             rfl
            refine pure_ (i := 10) (N := some 31) (v := ?_) (a' := ?_) #[true, true, true, true, true, true, true, true, true, true, true, false, false, false, false, false, false, false] rfl rfl (any_of HT_.out (by kernel_rfl)) (fun _ _ _ h => h) (Or.inl ⟨by rfl, ?_⟩) ?_ ?_
            rotate_left
            ·
             intro w'
             go_simp
             with_reducible rfl
            rotate_left
            ·
             simp only [Act.put, List.setIfInBounds_toArray, List.set_cons_zero, List.set_cons_succ, i64_w, i32_w]
             rfl
            refine pure_ (i := 13) (N := some 34) (v := ?_) (a' := ?_) #[true, true, true, true, true, true, true, true, true, true, true, false, false, true, false, false, false, false] rfl rfl (any_of HT_.out (by kernel_rfl)) (fun _ _ _ h => h) (Or.inl ⟨by rfl, ?_⟩) ?_ ?_
            rotate_left
            ·
             intro w'
             go_simp
             with_reducible rfl
            rotate_left
            ·
             simp only [Act.put, List.setIfInBounds_toArray, List.set_cons_zero, List.set_cons_succ, i64_w, i32_w]
             rfl
            refine pure_ (i := 14) (N := some 35) (v := ?_) (a' := ?_) #[true, true, true, true, true, true, true, true, true, true, true, false, false, true, true, false, false, false] rfl rfl (any_of HT_.out (by kernel_rfl)) (fun _ _ _ h => h) (Or.inl ⟨by rfl, ?_⟩) ?_ ?_
            rotate_left
            ·
             intro w'
             go_simp
             with_reducible rfl
            rotate_left
            ·
             simp only [Act.put, List.setIfInBounds_toArray, List.set_cons_zero, List.set_cons_succ, i64_w, i32_w]
             rfl
            refine take_ (i := 11) (N := some 32) (v := ?_) (a' := ?_) #[true, true, true, true, true, true, true, true, true, true, true, true, false, true, true, false, false, false] rfl rfl (take_ofW HT_.out HW_.out (by kernel_rfl)) (fun _ _ _ h => h) (Or.inl ⟨by rfl, ?_⟩) hHeld ?_ ?_
            rotate_left
            ·
             rintro w' ⟨s0, s1, s2, s3, s4⟩
             go_simp
             with_reducible rfl
            rotate_left
            ·
             simp only [Act.put, List.setIfInBounds_toArray, List.set_cons_zero, List.set_cons_succ, i64_w, i32_w]
             rfl
            refine take_ (i := 12) (N := some 33) (v := ?_) (a' := ?_) #[true, true, true, true, true, true, true, true, true, true, true, true, true, true, true, false, false, false] rfl rfl (take_ofW HT_.out HW_.out (by kernel_rfl)) (fun _ _ _ h => h) (Or.inl ⟨by rfl, ?_⟩) hHeld ?_ ?_
            rotate_left
            ·
             rintro w' ⟨s0, s1, s2, s3, s4⟩
             go_simp
             with_reducible rfl
            rotate_left
            ·
             simp only [Act.put, List.setIfInBounds_toArray, List.set_cons_zero, List.set_cons_succ, i64_w, i32_w]
             rfl
            refine one_ (i := 15) (N := some 36) #[true, true, true, true, true, true, true, true, true, true, true, true, true, true, true, true, false, false] rfl rfl (one_of HT_.out (by kernel_rfl)) (by decide) (fun K hK => ?_)
            refine goes_ Try.func91 (by kernel_rfl) rfl #[.agg #[.slice A0_0 l0_0.length c0_0, .slice A0_1 l0_1.length c0_1], .slice (some ad499) t494.length co24, .int .i64 x16_1] (by rfl) rfl rfl (by (try simp only [List.map_toArray, List.map_cons, List.map_nil]); first | done | rfl | (simp only [List.length_drop, List.length_take]; rfl)) ?_
            with_reducible refine (bfs_towards.calls k1 _ _ l0_0 _ _ l0_1 _ _ t494 x16_1 t501 _ ?side1 ?side2 ?side3 ?side4 ?side5 ?side6 A18.out).mono ?_
            (case side1 => repeat (first | exact (Kd.C_below HR0_0.out HB.out) | (with_reducible refine Kd.C_alloc ?_ _) | (with_reducible refine Kd.C_drewN ?_ _) | (with_reducible refine Kd.C_drew ?_)))
            (case side2 => exact HC0_0.out)
            (case side3 => repeat (first | exact (Kd.C_below HR0_1.out HB.out) | (with_reducible refine Kd.C_alloc ?_ _) | (with_reducible refine Kd.C_drewN ?_ _) | (with_reducible refine Kd.C_drew ?_)))
            (case side4 => exact HC0_1.out)
            (case side5 => repeat (first | exact (Kd.R_reads' HO_5.out).2.2 | (with_reducible refine Kd.C_alloc ?_ _) | (with_reducible refine Kd.C_drewN ?_ _) | (with_reducible refine Kd.C_drew ?_)))
            (case side6 => exact (Kd.R_reads' HO_5.out).2.1)
            rintro e w25 ⟨rfl, hb⟩
            have HS3_ := (hb.cell (World.block_lt_of_cell? _ _ (hHeld.2.2.2.1))).trans (hHeld.2.2.2.1)
            refine ⟨_, rfl, ?_⟩
            have n0_ := Aside0.mk (Kd.R_below (by (with_reducible repeat (first | apply Kd.R_alloc | apply Kd.R_drewN | apply Kd.R_drew)); exact HO_5.out) hb)
            have n1_ := Aside0.mk (blk_below (g := gb492) (o := .cells #[.slice A0_0 l0_0.length c0_0, .slice A0_1 l0_1.length c0_1] 27 (0, 0)) (by (with_reducible repeat (first | refine blk_drewN ?_ _ | refine blk_drew ?_ | refine blk_alloc ?_ _)); exact BK492.out) hb)
            have n2_ := Aside0.mk (below_step (by repeat (first | (with_reducible first | exact HB.out | apply below_alloc | apply pw_below_drewN | apply below_drew1 | refine below_set ?_ GE492.out) | exact HB.out)) hb)
            clear HO_5
            clear BK492
            clear HB
            have HO_5 := n0_
            have BK492 := n1_
            have HB := n2_
            clear n0_ n1_ n2_
            (try clear hb)
            (try clear hb2)
            (try clear hk)
            (try clear hi)
            refine hK.out _ _ ⟨(blk_cell BK492.out 0).trans rfl, (blk_cell BK492.out 1).trans rfl, ((HB.out.cell (World.block_lt_of_cell? w _ hw498_0)).trans hw498_0), HS3_, ((HB.out.cell (World.block_lt_of_cell? w _ hw500_0)).trans hw500_0)⟩ (fun hHeld => ?_)
            clear hK K
            refine norm_ (a' := ?_) ?_ ?_
            rotate_left
            ·
             show Act.put _ (some 36) _ = _
             simp only [Act.put, List.setIfInBounds_toArray, List.set_cons_zero, List.set_cons_succ, i64_w, i32_w]
             rfl
            refine pure_ (i := 16) (N := some 37) (v := ?_) (a' := ?_) #[true, true, true, true, true, true, true, true, true, true, true, true, true, true, true, true, true, false] rfl rfl (any_of HT_.out (by kernel_rfl)) (fun _ _ _ h => h) (Or.inl ⟨by rfl, ?_⟩) ?_ ?_
            rotate_left
            ·
             intro w'
             go_simp
             with_reducible rfl
            rotate_left
            ·
             simp only [Act.put, List.setIfInBounds_toArray, List.set_cons_zero, List.set_cons_succ, i64_w, i32_w]
             rfl
            refine pure_ (i := 17) (N := some 38) (v := ?_) (a' := ?_) #[true, true, true, true, true, true, true, true, true, true, true, true, true, true, true, true, true, true] rfl rfl (any_of HT_.out (by kernel_rfl)) (fun _ _ _ h => h) (Or.inl ⟨by rfl, ?_⟩) ?_ ?_
            rotate_left
            ·
             intro w'
             go_simp
             with_reducible rfl
            rotate_left
            ·
             simp only [Act.put, List.setIfInBounds_toArray, List.set_cons_zero, List.set_cons_succ, i64_w, i32_w]
             rfl
            refine done_ (done_of HT_.out (by kernel_rfl)) ?_
            try go_wp2
            go_ret
            exact ⟨by first | rfl | (simp [errW_none, errW_some] <;> rfl) | (simp [*, errW_none, errW_some] <;> rfl), by repeat (first | (with_reducible first | exact HB.out | apply below_alloc | apply pw_below_drewN | apply below_drew1 | refine below_set ?_ GE492.out) | exact HB.out)⟩
          ·
           rw [if_neg c17] at H
           exact absurd H (by simp)
         ·
          rw [if_neg c16] at H
          have c16b0 : ((rd (rd_L3 l1 x16_1) 0) == (rd t494 x16_1)) = false := beq_eq_false_iff_ne.mpr c16
          have c16b1 : ((rd (rd_L3 l1 x16_1) 0) != (rd t494 x16_1)) = true := bne_iff_ne.mpr c16
          obtain rfl := Option.some.inj H
          have p497 : 0 ≤ (x16_1 : Int) := of_decide_eq_true (by first | (with_reducible assumption) | assumption)
          have q497 : x16_1 < (l1.length : Int) := of_decide_eq_true (by first | (with_reducible assumption) | assumption)
          obtain ⟨ad497, A497_0, c497_0, e497, hx497_0, hl497_0, hi497_0⟩ := at_L3 HR1.out x16_1 p497 q497
          cases e497
          replace hx497_0 := (HB.out.cell (World.block_lt_of_cell? w _ hx497_0)).trans hx497_0
          have HR497_0 := Aside0.mk hi497_0
          have HC497_0 := Aside0.mk hl497_0
          clear hi497_0 hl497_0
          replace p497 := eq_true p497
          replace q497 := eq_true q497
          try go_wp2
          have n0_ := Aside0.mk (Kd.R_drew HO_5.out)
          have n1_ := Aside0.mk (blk_drew BK492.out)
          have n2_ := Aside0.mk (below_drew1 HB.out)
          clear HO_5
          clear BK492
          clear HB
          have HO_5 := n0_
          have BK492 := n1_
          have HB := n2_
          clear n0_ n1_ n2_
          have p498 : 0 ≤ (0 : Int) := (by omega)
          have q498 : 0 < ((rd_L3 l1 x16_1).length : Int) := of_decide_eq_true (by first | (with_reducible assumption) | assumption)
          obtain ⟨ad498, e498, hx498_0⟩ := Kd.at_int HR497_0.out 0 p498 q498
          have hw498_0 := hx498_0
          (try rw [show ((0 : Int)).toNat = 0 from rfl] at hw498_0)
          (try rw [show 0 * 1 = 0 from rfl] at hw498_0)
          (try rw [Addr.add_zero'] at hw498_0)
          cases e498
          have qi498 : (0 < (rd_L3 l1 x16_1).length) = True := eq_true (by omega)
          (try rw [show ((0 : Int)).toNat = 0 from rfl] at hx498_0)
          (try rw [Addr.add_zero'] at hx498_0)
          replace hx498_0 := (HB.out.cell (World.block_lt_of_cell? w _ hx498_0)).trans hx498_0
          replace p498 := eq_true p498
          replace q498 := eq_true q498
          obtain ⟨Ao27, co27, eo27⟩ := Kd.R_slice HO_5.out
          (first | subst eo27 | (injection eo27 with f1_ f2_ f3_; have f4_ := f1_.symm; have f5_ := f3_.symm; clear f1_ f2_ f3_; subst f4_; subst f5_))
          have p499 : 0 ≤ (x16_1 : Int) := of_decide_eq_true (by first | (with_reducible assumption) | assumption)
          have q499 : x16_1 < (t494.length : Int) := of_decide_eq_true (by first | (with_reducible assumption) | assumption)
          obtain ⟨ad499, e499, hx499_0⟩ := Kd.at_int (Kd.R_reads' HO_5.out).2.2 x16_1 p499 q499
          cases e499
          replace p499 := eq_true p499
          replace q499 := eq_true q499
          refine start_ (n := 18) (S := fun w' => w'.cell? ad498 = some (.int .i64 (rd (rd_L3 l1 x16_1) 0)) ∧ w'.cell? (ad499.add (x16_1).toNat) = some (.int .i64 (rd t494 x16_1))) (ds := []) #[false, false, false, false, false, false, false, false, false, false, false, false, false, false, false, false, false, false] (by kernel_rfl) rfl rfl ⟨((HB.out.cell (World.block_lt_of_cell? w _ hw498_0)).trans hw498_0), hx499_0⟩ (fun hHeld => ?_); refine with_tabW bfs_Legit.tab7 bfs_Legit.bits7 (fun HT_ HW_ => ?_)
          generalize wr.drew = w26 at HO_5 BK492 HB hx498_0 hx499_0 hHeld ⊢
          refine pure_ (i := 0) (N := some 21) (v := ?_) (a' := ?_) #[true, false, false, false, false, false, false, false, false, false, false, false, false, false, false, false, false, false] rfl rfl (any_of HT_.out (by kernel_rfl)) (fun _ _ _ h => h) (Or.inl ⟨by rfl, ?_⟩) ?_ ?_
          rotate_left
          ·
           intro w'
           go_simp
           with_reducible rfl
          rotate_left
          ·
           simp only [Act.put, List.setIfInBounds_toArray, List.set_cons_zero, List.set_cons_succ, i64_w, i32_w]
           rfl
          refine pure_ (i := 1) (N := some 22) (v := ?_) (a' := ?_) #[true, true, false, false, false, false, false, false, false, false, false, false, false, false, false, false, false, false] rfl rfl (any_of HT_.out (by kernel_rfl)) (fun _ _ _ h => h) (Or.inl ⟨by rfl, ?_⟩) ?_ ?_
          rotate_left
          ·
           intro w'
           go_simp
           with_reducible rfl
          rotate_left
          ·
           simp only [Act.put, List.setIfInBounds_toArray, List.set_cons_zero, List.set_cons_succ, i64_w, i32_w]
           rfl
          refine pure_ (i := 3) (N := some 24) (v := ?_) (a' := ?_) #[true, true, false, true, false, false, false, false, false, false, false, false, false, false, false, false, false, false] rfl rfl (any_of HT_.out (by kernel_rfl)) (fun _ _ _ h => h) (Or.inl ⟨by rfl, ?_⟩) ?_ ?_
          rotate_left
          ·
           intro w'
           go_simp
           with_reducible rfl
          rotate_left
          ·
           simp only [Act.put, List.setIfInBounds_toArray, List.set_cons_zero, List.set_cons_succ, i64_w, i32_w]
           rfl
          refine pure_ (i := 4) (N := some 25) (v := ?_) (a' := ?_) #[true, true, false, true, true, false, false, false, false, false, false, false, false, false, false, false, false, false] rfl rfl (any_of HT_.out (by kernel_rfl)) (fun _ _ _ h => h) (Or.inl ⟨by rfl, ?_⟩) ?_ ?_
          rotate_left
          ·
           intro w'
           go_simp
           with_reducible rfl
          rotate_left
          ·
           simp only [Act.put, List.setIfInBounds_toArray, List.set_cons_zero, List.set_cons_succ, i64_w, i32_w]
           rfl
          refine pure_ (i := 5) (N := some 26) (v := ?_) (a' := ?_) #[true, true, false, true, true, true, false, false, false, false, false, false, false, false, false, false, false, false] rfl rfl (any_of HT_.out (by kernel_rfl)) (fun _ _ _ h => h) (Or.inl ⟨by rfl, ?_⟩) ?_ ?_
          rotate_left
          ·
           intro w'
           go_simp
           with_reducible rfl
          rotate_left
          ·
           simp only [Act.put, List.setIfInBounds_toArray, List.set_cons_zero, List.set_cons_succ, i64_w, i32_w]
           rfl
          refine take_ (i := 2) (N := some 23) (v := ?_) (a' := ?_) #[true, true, true, true, true, true, false, false, false, false, false, false, false, false, false, false, false, false] rfl rfl (take_ofW HT_.out HW_.out (by kernel_rfl)) (fun _ _ _ h => h) (Or.inl ⟨by rfl, ?_⟩) hHeld ?_ ?_
          rotate_left
          ·
           rintro w' ⟨s0, s1⟩
           go_simp
           with_reducible rfl
          rotate_left
          ·
           simp only [Act.put, List.setIfInBounds_toArray, List.set_cons_zero, List.set_cons_succ, i64_w, i32_w]
           rfl
          refine take_ (i := 6) (N := some 27) (v := ?_) (a' := ?_) #[true, true, true, true, true, true, true, false, false, false, false, false, false, false, false, false, false, false] rfl rfl (take_ofW HT_.out HW_.out (by kernel_rfl)) (fun _ _ _ h => h) (Or.inl ⟨by rfl, ?_⟩) hHeld ?_ ?_
          rotate_left
          ·
           rintro w' ⟨s0, s1⟩
           go_simp
           with_reducible rfl
          rotate_left
          ·
           simp only [Act.put, List.setIfInBounds_toArray, List.set_cons_zero, List.set_cons_succ, i64_w, i32_w]
           rfl
          refine pure_ (i := 7) (N := some 28) (v := ?_) (a' := ?_) #[true, true, true, true, true, true, true, true, false, false, false, false, false, false, false, false, false, false] rfl rfl (any_of HT_.out (by kernel_rfl)) (fun _ _ _ h => h) (Or.inl ⟨by rfl, ?_⟩) ?_ ?_
          rotate_left
          ·
           intro w'
           go_simp
           with_reducible rfl
          rotate_left
          ·
           simp only [Act.put, List.setIfInBounds_toArray, List.set_cons_zero, List.set_cons_succ, i64_w, i32_w]
           rfl
          refine pure_ (i := 8) (N := some 29) (v := ?_) (a' := ?_) #[true, true, true, true, true, true, true, true, true, false, false, false, false, false, false, false, false, false] rfl rfl (any_of HT_.out (by kernel_rfl)) (fun _ _ _ h => h) (Or.inl ⟨by rfl, ?_⟩) ?_ ?_
          rotate_left
          ·
           intro w'
           go_simp
           with_reducible rfl
          rotate_left
          ·
           simp only [Act.put, List.setIfInBounds_toArray, List.set_cons_zero, List.set_cons_succ, i64_w, i32_w]
           rfl
          refine pure_ (i := 9) (N := some 30) (v := undef) (a' := ?_) #[true, true, true, true, true, true, true, true, true, true, false, false, false, false, false, false, false, false] rfl rfl (any_of HT_.out (by kernel_rfl)) (fun _ _ _ h => h) (Or.inr ⟨by rfl, rfl⟩) ?_ ?_
          rotate_left
          ·
           simp only [Act.put, List.setIfInBounds_toArray, List.set_cons_zero, List.set_cons_succ, i64_w, i32_w]
           rfl
          refine pure_ (i := 10) (N := some 31) (v := undef) (a' := ?_) #[true, true, true, true, true, true, true, true, true, true, true, false, false, false, false, false, false, false] rfl rfl (any_of HT_.out (by kernel_rfl)) (fun _ _ _ h => h) (Or.inr ⟨by rfl, rfl⟩) ?_ ?_
          rotate_left
          ·
           simp only [Act.put, List.setIfInBounds_toArray, List.set_cons_zero, List.set_cons_succ, i64_w, i32_w]
           rfl
          refine pure_ (i := 11) (N := some 32) (v := undef) (a' := ?_) #[true, true, true, true, true, true, true, true, true, true, true, true, false, false, false, false, false, false] rfl rfl (any_of HT_.out (by kernel_rfl)) (fun _ _ _ h => h) (Or.inr ⟨by rfl, rfl⟩) ?_ ?_
          rotate_left
          ·
           simp only [Act.put, List.setIfInBounds_toArray, List.set_cons_zero, List.set_cons_succ, i64_w, i32_w]
           rfl
          refine pure_ (i := 12) (N := some 33) (v := undef) (a' := ?_) #[true, true, true, true, true, true, true, true, true, true, true, true, true, false, false, false, false, false] rfl rfl (any_of HT_.out (by kernel_rfl)) (fun _ _ _ h => h) (Or.inr ⟨by rfl, rfl⟩) ?_ ?_
          rotate_left
          ·
           simp only [Act.put, List.setIfInBounds_toArray, List.set_cons_zero, List.set_cons_succ, i64_w, i32_w]
           rfl
          refine pure_ (i := 13) (N := some 34) (v := undef) (a' := ?_) #[true, true, true, true, true, true, true, true, true, true, true, true, true, true, false, false, false, false] rfl rfl (any_of HT_.out (by kernel_rfl)) (fun _ _ _ h => h) (Or.inr ⟨by rfl, rfl⟩) ?_ ?_
          rotate_left
          ·
           simp only [Act.put, List.setIfInBounds_toArray, List.set_cons_zero, List.set_cons_succ, i64_w, i32_w]
           rfl
          refine pure_ (i := 14) (N := some 35) (v := undef) (a' := ?_) #[true, true, true, true, true, true, true, true, true, true, true, true, true, true, true, false, false, false] rfl rfl (any_of HT_.out (by kernel_rfl)) (fun _ _ _ h => h) (Or.inr ⟨by rfl, rfl⟩) ?_ ?_
          rotate_left
          ·
           simp only [Act.put, List.setIfInBounds_toArray, List.set_cons_zero, List.set_cons_succ, i64_w, i32_w]
           rfl
          refine pure_ (i := 15) (N := some 36) (v := undef) (a' := ?_) #[true, true, true, true, true, true, true, true, true, true, true, true, true, true, true, true, false, false] rfl rfl (any_of HT_.out (by kernel_rfl)) (fun _ _ _ h => h) (Or.inr ⟨by rfl, rfl⟩) ?_ ?_
          rotate_left
          ·
           simp only [Act.put, List.setIfInBounds_toArray, List.set_cons_zero, List.set_cons_succ, i64_w, i32_w]
           rfl
          refine pure_ (i := 16) (N := some 37) (v := undef) (a' := ?_) #[true, true, true, true, true, true, true, true, true, true, true, true, true, true, true, true, true, false] rfl rfl (any_of HT_.out (by kernel_rfl)) (fun _ _ _ h => h) (Or.inr ⟨by rfl, rfl⟩) ?_ ?_
          rotate_left
          ·
           simp only [Act.put, List.setIfInBounds_toArray, List.set_cons_zero, List.set_cons_succ, i64_w, i32_w]
           rfl
          refine pure_ (i := 17) (N := some 38) (v := ?_) (a' := ?_) #[true, true, true, true, true, true, true, true, true, true, true, true, true, true, true, true, true, true] rfl rfl (any_of HT_.out (by kernel_rfl)) (fun _ _ _ h => h) (Or.inl ⟨by rfl, ?_⟩) ?_ ?_
          rotate_left
          ·
           intro w'
           go_simp
           with_reducible rfl
          rotate_left
          ·
           simp only [Act.put, List.setIfInBounds_toArray, List.set_cons_zero, List.set_cons_succ, i64_w, i32_w]
           rfl
          refine done_ (done_of HT_.out (by kernel_rfl)) ?_
          try go_wp2
          go_ret
          exact ⟨by first | rfl | (simp [errW_none, errW_some] <;> rfl) | (simp [*, errW_none, errW_some] <;> rfl), by repeat (first | (with_reducible first | exact HB.out | apply below_alloc | apply pw_below_drewN | apply below_drew1 | refine below_set ?_ GE492.out) | exact HB.out)⟩
        ·
         rw [if_neg c15] at H
         exact absurd H (by simp)
       ·
        rw [if_neg c14] at H
        exact absurd H (by simp)
      ·
       rw [if_neg c13] at H
       exact absurd H (by simp)
     ·
      rw [if_neg c12] at H
      exact absurd H (by simp)
    ·
     rw [if_neg c11] at H
     have c11b0 : decide (x16_1 < (l1.length : Int)) = false := decide_eq_false c11
     clear c11
     obtain rfl := Option.some.inj H
     go_wp2
     go_ret
     exact ⟨by first | rfl | (simp [errW_none, errW_some] <;> rfl) | (simp [*, errW_none, errW_some] <;> rfl), by repeat (first | (with_reducible first | exact HB.out | apply below_alloc | apply pw_below_drewN | apply below_drew1 | refine below_set ?_ GE492.out) | exact HB.out)⟩
 ·
  replace c4 := Bool.eq_false_iff.mpr c4
  subst c4
  have H1 : (some false) = some r := by rw [if_neg (show ¬ (false = true) by decide)] at H; exact H
  clear H
  have H := H1
  clear H1
  obtain rfl := Option.some.inj H
  go_enter Try.func40, Try.ntmps40
  go_wp2_with (first | ((with_reducible refine gate_dst (N := 2) rfl ?_); refine box_event ?hg (N := 2) ?hd (cs := #[.slice A0_0 l0_0.length c0_0, .slice A0_1 l0_1.length c0_1]) (t := 27) ?hr ?_; (case hd => rfl); (case hg => rfl); (case hr => first | (go_simp; done) | (go_simp; rfl)); intro gb492 hg w28 hbox hb; have n0_ := Aside0.mk (below_step (by repeat (first | (with_reducible first | exact HB.out | apply below_alloc | apply pw_below_drewN | apply below_drew1) | exact HB.out)) hb); have n1_ := Aside0.mk (hbox); have n2_ := Aside0.mk ((by rw [hg]; exact (below_size (by repeat (first | (with_reducible first | exact HB.out | apply below_alloc | apply pw_below_drewN | apply below_drew1) | exact HB.out))) : w.heap.size ≤ gb492)); have n3_ := Aside0.mk ((by rw [hg]; exact (below_size (by repeat (first | (with_reducible first | exact HB.out | apply below_alloc | apply pw_below_drewN | apply below_drew1) | exact HB.out))) : w.heap.size ≤ gb492)); clear HB; have HB := n0_; have BK492 := n1_; have GW492 := n2_; have GE492 := n3_; clear n0_ n1_ n2_ n3_; clear hb hbox hg; have hcz29_0 : w28.cell? ⟨gb492, 0, none⟩ = some (.slice A0_0 l0_0.length c0_0) := (blk_cell BK492.out 0).trans rfl; have hcz29_1 : w28.cell? ⟨gb492, 1, none⟩ = some (.slice A0_1 l0_1.length c0_1) := (blk_cell BK492.out 1).trans rfl; have hfz29_0 := blk_frozen BK492.out 0; have hfz29_1 := blk_frozen BK492.out 1) | ((with_reducible refine gate_callee (f := 89) rfl ?_); refine goesL_ (some 10) rfl rfl Try.func89 (by kernel_rfl) rfl #[.agg #[.slice A0_0 l0_0.length c0_0, .slice A0_1 l0_1.length c0_1], .slice A1 l1.length c1] rfl (by (try simp only [List.map_toArray, List.map_cons, List.map_nil]); first | done | rfl | (simp only [List.length_drop, List.length_take]; rfl)) ?_; (with_reducible refine (bfs_configuration.calls k _ _ l0_0 _ _ l0_1 _ _ l1 false _ ?side1 ?side2 ?side3 ?side4 ?side5 ?side6 A3.out).mono ?_); (case side1 => repeat (first | exact (Kd.C_below HR0_0.out HB.out) | (with_reducible refine Kd.C_alloc ?_ _) | (with_reducible refine Kd.C_drewN ?_ _) | (with_reducible refine Kd.C_drew ?_))); (case side2 => exact HC0_0.out); (case side3 => repeat (first | exact (Kd.C_below HR0_1.out HB.out) | (with_reducible refine Kd.C_alloc ?_ _) | (with_reducible refine Kd.C_drewN ?_ _) | (with_reducible refine Kd.C_drew ?_))); (case side4 => exact HC0_1.out); (case side5 => repeat (first | exact (Kd.C_below HR1.out HB.out) | (with_reducible refine Kd.C_alloc ?_ _) | (with_reducible refine Kd.C_drewN ?_ _) | (with_reducible refine Kd.C_drew ?_))); (case side6 => exact HC1.out); rintro e w30 ⟨rfl, hb⟩; refine ⟨_, rfl, ?_⟩; have n0_ := Aside0.mk (blk_below (g := gb492) (o := .cells #[.slice A0_0 l0_0.length c0_0, .slice A0_1 l0_1.length c0_1] 27 (0, 0)) (by (with_reducible repeat (first | refine blk_drewN ?_ _ | refine blk_drew ?_ | refine blk_alloc ?_ _)); exact BK492.out) hb); have n1_ := Aside0.mk (below_step (by repeat (first | (with_reducible first | exact HB.out | apply below_alloc | apply pw_below_drewN | apply below_drew1 | refine below_set ?_ GE492.out) | exact HB.out)) hb); clear BK492; clear HB; have BK492 := n0_; have HB := n1_; clear n0_ n1_; (try clear hb); (try clear hb2); (try clear hk); (try clear hi)))
  go_ret
  exact ⟨by first | rfl | (simp [errW_none, errW_some] <;> rfl) | (simp [*, errW_none, errW_some] <;> rfl), by repeat (first | (with_reducible first | exact HB.out | apply below_alloc | apply pw_below_drewN | apply below_drew1 | refine below_set ?_ GE492.out) | exact HB.out)⟩
end Go.Proofs.YthapikakneikbaaG
namespace Go.Proofs.YthapikakneikbaaG
open Go.RowKit Go.Proofs.YthapikakneikbaaW.PrintWords Go.Proofs.YthapikakneikbaaW.PrintLast Go.Proofs.YthapikakneikbaaW.PrintMore
attribute [local go_sem] max2_int min2_int max_two min_two max_three min_three max_four min_four   -- for this text's walks alone
set_option linter.unusedVariables false
set_option linter.unusedSimpArgs false
/-! ### bfs_Claim: function 42 -/
def bfs_Claim.f (k : Nat) (l0_0 : List Int) (l0_1 : List (List (S60))) : Option (Int × Bool × Bool × Int × Int) := (bfs_Fit.f k l0_0 l0_1).bind fun t510 => (if t510 = true then ((graph_Eccentricity.f k l0_0 l0_1 0).bind fun t511 => (some (3, false, true, wrap64 (t511 + 1), (-1)))) else (some (0, false, false, 0, 0)))
theorem bfs_Claim.mono : ∀ a0 a1 k, LeO (bfs_Claim.f k a0 a1) (bfs_Claim.f (k + 1) a0 a1) := by
 intro a0 a1 k
 unfold bfs_Claim.f
 repeat' first
   | (with_reducible exact bfs_Fit.mono _ _ _)
   | (with_reducible exact graph_Eccentricity.mono _ _ _ _)
   | (with_reducible exact LeO.refl _)
   | (with_reducible exact LeO.none _)
   | (with_reducible refine LeO.ite ?_ ?_)
   | (with_reducible refine LeO.bind ?_ (fun _ => ?_))
   | exact bfs_Fit.mono _ _ _
   | exact graph_Eccentricity.mono _ _ _ _
   | exact LeO.none _
   | refine LeO.ite ?_ ?_
   | refine LeO.bind ?_ (fun _ => ?_)
set_option maxHeartbeats 8000000 in
set_option maxRecDepth 100000 in
theorem bfs_Claim.calls (k : Nat) (A0_0 : Option Addr) (c0_0 : Nat) (l0_0 : List Int) (A0_1 : Option Addr) (c0_1 : Nat) (l0_1 : List (List (S60))) (r1 : Int) (r2 : Bool) (r3 : Bool) (r4 : Int) (r5 : Int) (w : World) (hr0_0 : Kd.C (Kd.int .i64) w A0_0 l0_0.length l0_0) (hc0_0 : l0_0.length ≤ c0_0) (hr0_1 : Kd.C (Kd.slice 60 k60) w A0_1 l0_1.length l0_1) (hc0_1 : l0_1.length ≤ c0_1) (h : bfs_Claim.f k l0_0 l0_1 = some (r1, r2, r3, r4, r5)) :
  Calls Try.prog 42 #[.agg #[.slice A0_0 l0_0.length c0_0, .slice A0_1 l0_1.length c0_1]] w fun e w' => e = .returned (.agg #[.int .i64 r1, .bool r2, .bool r3, .int .i64 r4, .int .i64 r5]) ∧ Below w.heap.size w w' := by
 have hu27 := Try.underlying27
 have hu44 := Try.underlying44
 have HR0_0 := Aside0.mk hr0_0
 have HC0_0 := Aside0.mk hc0_0
 clear hr0_0 hc0_0
 have HR0_1 := Aside0.mk hr0_1
 have HC0_1 := Aside0.mk hc0_1
 clear hr0_1 hc0_1
 have HB := Aside0.mk (Below.refl w.heap.size w)
 have H : ((bfs_Fit.f k l0_0 l0_1).bind fun t510 => (if t510 = true then ((graph_Eccentricity.f k l0_0 l0_1 0).bind fun t511 => (some (3, false, true, wrap64 (t511 + 1), (-1)))) else (some (0, false, false, 0, 0)))) = some (r1, r2, r3, r4, r5) := h
 clear h
 replace H := Option.bind_eq_some_iff.mp H
 obtain ⟨t510, A20, H⟩ := H
 replace H : (if t510 = true then ((graph_Eccentricity.f k l0_0 l0_1 0).bind fun t511 => (some (3, false, true, wrap64 (t511 + 1), (-1)))) else (some (0, false, false, 0, 0))) = some (r1, r2, r3, r4, r5) := H
 have A2 := Aside0.mk A20
 clear A20
 by_cases c3 : t510 = true
 ·
  subst c3
  have H1 : ((graph_Eccentricity.f k l0_0 l0_1 0).bind fun t511 => (some (3, false, true, wrap64 (t511 + 1), (-1)))) = some (r1, r2, r3, r4, r5) := by rw [if_pos rfl] at H; exact H
  clear H
  have H := H1
  clear H1
  replace H := Option.bind_eq_some_iff.mp H
  obtain ⟨t511, A40, H⟩ := H
  replace H : (some (3, false, true, wrap64 (t511 + 1), (-1))) = some (r1, r2, r3, r4, r5) := H
  have A4 := Aside0.mk A40
  clear A40
  simp only [Option.some.injEq, Prod.mk.injEq] at H
  obtain ⟨rfl, rfl, rfl, rfl, rfl⟩ := H
  go_enter Try.func42, Try.ntmps42
  go_wp2_with (first | ((with_reducible refine gate_dst (N := 1) rfl ?_); refine box_event ?hg (N := 1) ?hd (cs := #[.slice A0_0 l0_0.length c0_0, .slice A0_1 l0_1.length c0_1]) (t := 27) ?hr ?_; (case hd => rfl); (case hg => rfl); (case hr => first | (go_simp; done) | (go_simp; rfl)); intro gb508 hg w5 hbox hb; have n0_ := Aside0.mk (below_step (by repeat (first | (with_reducible first | exact HB.out | apply below_alloc | apply pw_below_drewN | apply below_drew1) | exact HB.out)) hb); have n1_ := Aside0.mk (hbox); have n2_ := Aside0.mk ((by rw [hg]; exact (below_size (by repeat (first | (with_reducible first | exact HB.out | apply below_alloc | apply pw_below_drewN | apply below_drew1) | exact HB.out))) : w.heap.size ≤ gb508)); have n3_ := Aside0.mk ((by rw [hg]; exact (below_size (by repeat (first | (with_reducible first | exact HB.out | apply below_alloc | apply pw_below_drewN | apply below_drew1) | exact HB.out))) : w.heap.size ≤ gb508)); clear HB; have HB := n0_; have BK508 := n1_; have GW508 := n2_; have GE508 := n3_; clear n0_ n1_ n2_ n3_; clear hb hbox hg) | ((with_reducible refine gate_dst (N := 2) rfl ?_); refine box_event ?hg (N := 2) ?hd (cs := #[.int .i64 0, .bool false, .bool false, .int .i64 0, .int .i64 0]) (t := 44) ?hr ?_; (case hd => rfl); (case hg => rfl); (case hr => first | (go_simp; done) | (go_simp; rfl)); intro gb509 hg w6 hbox hb; have n0_ := Aside0.mk (blk_below (g := gb508) (o := .cells #[.slice A0_0 l0_0.length c0_0, .slice A0_1 l0_1.length c0_1] 27 (0, 0)) (by (with_reducible repeat (first | refine blk_drewN ?_ _ | refine blk_drew ?_ | refine blk_alloc ?_ _)); exact BK508.out) hb); have n1_ := Aside0.mk (below_step (by repeat (first | (with_reducible first | exact HB.out | apply below_alloc | apply pw_below_drewN | apply below_drew1 | refine below_set ?_ GE508.out) | exact HB.out)) hb); have n2_ := Aside0.mk (hbox); have n3_ := Aside0.mk ((by rw [hg]; exact (below_size (by repeat (first | (with_reducible first | exact HB.out | apply below_alloc | apply pw_below_drewN | apply below_drew1 | refine below_set ?_ GE508.out) | exact HB.out))) : w.heap.size ≤ gb509)); have n4_ := Aside0.mk ((by rw [hg]; exact (below_size (by repeat (first | (with_reducible first | exact HB.out | apply below_alloc | apply pw_below_drewN | apply below_drew1 | refine below_set ?_ GE508.out) | exact HB.out))) : w.heap.size ≤ gb509)); have n5_ := Aside0.mk ((by rw [hg]; exact Nat.ne_of_lt (blk_lt (g := gb508) (o := .cells #[.slice A0_0 l0_0.length c0_0, .slice A0_1 l0_1.length c0_1] 27 (0, 0)) (by (with_reducible repeat (first | refine blk_drewN ?_ _ | refine blk_drew ?_ | refine blk_alloc ?_ _)); exact BK508.out)) : gb508 ≠ gb509)); have n6_ := Aside0.mk ((by rw [hg]; exact Nat.ne_of_gt (blk_lt (g := gb508) (o := .cells #[.slice A0_0 l0_0.length c0_0, .slice A0_1 l0_1.length c0_1] 27 (0, 0)) (by (with_reducible repeat (first | refine blk_drewN ?_ _ | refine blk_drew ?_ | refine blk_alloc ?_ _)); exact BK508.out)) : gb509 ≠ gb508)); clear BK508; clear HB; have BK508 := n0_; have HB := n1_; have BK509 := n2_; have GW509 := n3_; have GE509 := n4_; have NB508_509 := n5_; have NB509_508 := n6_; clear n0_ n1_ n2_ n3_ n4_ n5_ n6_; clear hb hbox hg; have hnb7 := NB508_509.out; have hnc7 := NB509_508.out; have hcz8_0 : w6.cell? ⟨gb508, 0, none⟩ = some (.slice A0_0 l0_0.length c0_0) := (blk_cell BK508.out 0).trans rfl; have hcz8_1 : w6.cell? ⟨gb508, 1, none⟩ = some (.slice A0_1 l0_1.length c0_1) := (blk_cell BK508.out 1).trans rfl; have hfz8_0 := blk_frozen BK508.out 0; have hfz8_1 := blk_frozen BK508.out 1) | ((with_reducible refine gate_callee (f := 38) rfl ?_); refine goesL_ (some 4) rfl rfl Try.func38 (by kernel_rfl) rfl #[.agg #[.slice A0_0 l0_0.length c0_0, .slice A0_1 l0_1.length c0_1]] rfl (by (try simp only [List.map_toArray, List.map_cons, List.map_nil]); first | done | rfl | (simp only [List.length_drop, List.length_take]; rfl)) ?_; (with_reducible refine (bfs_Fit.calls k _ _ l0_0 _ _ l0_1 true _ ?side1 ?side2 ?side3 ?side4 A2.out).mono ?_); (case side1 => repeat (first | exact (Kd.C_below HR0_0.out HB.out) | (with_reducible refine Kd.C_alloc ?_ _) | (with_reducible refine Kd.C_drewN ?_ _) | (with_reducible refine Kd.C_drew ?_))); (case side2 => exact HC0_0.out); (case side3 => repeat (first | exact (Kd.C_below HR0_1.out HB.out) | (with_reducible refine Kd.C_alloc ?_ _) | (with_reducible refine Kd.C_drewN ?_ _) | (with_reducible refine Kd.C_drew ?_))); (case side4 => exact HC0_1.out); rintro e w9 ⟨rfl, hb⟩; refine ⟨_, rfl, ?_⟩; have n0_ := Aside0.mk (blk_below (g := gb508) (o := .cells #[.slice A0_0 l0_0.length c0_0, .slice A0_1 l0_1.length c0_1] 27 (0, 0)) (by (with_reducible repeat (first | refine blk_drewN ?_ _ | refine blk_drew ?_ | refine blk_alloc ?_ _)); exact BK508.out) hb); have n1_ := Aside0.mk (blk_below (g := gb509) (o := .cells #[.int .i64 0, .bool false, .bool false, .int .i64 0, .int .i64 0] 44 (0, 0)) (by (with_reducible repeat (first | refine blk_drewN ?_ _ | refine blk_drew ?_ | refine blk_alloc ?_ _)); exact BK509.out) hb); have n2_ := Aside0.mk (below_step (by repeat (first | (with_reducible first | exact HB.out | apply below_alloc | apply pw_below_drewN | apply below_drew1 | refine below_set ?_ GE508.out | refine below_set ?_ GE509.out) | exact HB.out)) hb); clear BK508; clear BK509; clear HB; have BK508 := n0_; have BK509 := n1_; have HB := n2_; clear n0_ n1_ n2_; (try clear hb); (try clear hb2); (try clear hk); (try clear hi); have hcz10_0 : w9.cell? ⟨gb508, 0, none⟩ = some (.slice A0_0 l0_0.length c0_0) := (blk_cell BK508.out 0).trans rfl; have hcz10_1 : w9.cell? ⟨gb508, 1, none⟩ = some (.slice A0_1 l0_1.length c0_1) := (blk_cell BK508.out 1).trans rfl; have hfz10_0 := blk_frozen BK508.out 0; have hfz10_1 := blk_frozen BK508.out 1) | ((with_reducible refine gate_callee (f := 94) rfl ?_); refine goesL_ (some 8) rfl rfl Try.func94 (by kernel_rfl) rfl #[.agg #[.slice A0_0 l0_0.length c0_0, .slice A0_1 l0_1.length c0_1], .int .i64 0] rfl (by (try simp only [List.map_toArray, List.map_cons, List.map_nil]); first | done | rfl | (simp only [List.length_drop, List.length_take]; rfl)) ?_; (with_reducible refine (graph_Eccentricity.calls k _ _ l0_0 _ _ l0_1 0 t511 _ ?side1 ?side2 ?side3 ?side4 A4.out).mono ?_); (case side1 => repeat (first | exact (Kd.C_below HR0_0.out HB.out) | (with_reducible refine Kd.C_alloc ?_ _) | (with_reducible refine Kd.C_drewN ?_ _) | (with_reducible refine Kd.C_drew ?_))); (case side2 => exact HC0_0.out); (case side3 => repeat (first | exact (Kd.C_below HR0_1.out HB.out) | (with_reducible refine Kd.C_alloc ?_ _) | (with_reducible refine Kd.C_drewN ?_ _) | (with_reducible refine Kd.C_drew ?_))); (case side4 => exact HC0_1.out); rintro e w11 ⟨rfl, hb⟩; refine ⟨_, rfl, ?_⟩; have n0_ := Aside0.mk (blk_below (g := gb508) (o := .cells #[.slice A0_0 l0_0.length c0_0, .slice A0_1 l0_1.length c0_1] 27 (0, 0)) (by (with_reducible repeat (first | refine blk_drewN ?_ _ | refine blk_drew ?_ | refine blk_alloc ?_ _)); exact BK508.out) hb); have n1_ := Aside0.mk (blk_below (g := gb509) (o := .cells #[.int .i64 0, .bool false, .bool false, .int .i64 0, .int .i64 0] 44 (0, 0)) (by (with_reducible repeat (first | refine blk_drewN ?_ _ | refine blk_drew ?_ | refine blk_alloc ?_ _)); exact BK509.out) hb); have n2_ := Aside0.mk (below_step (by repeat (first | (with_reducible first | exact HB.out | apply below_alloc | apply pw_below_drewN | apply below_drew1 | refine below_set ?_ GE508.out | refine below_set ?_ GE509.out) | exact HB.out)) hb); clear BK508; clear BK509; clear HB; have BK508 := n0_; have BK509 := n1_; have HB := n2_; clear n0_ n1_ n2_; (try clear hb); (try clear hb2); (try clear hk); (try clear hi); have hcz12_0 : w11.cell? ⟨gb509, 0, none⟩ = some (.int .i64 0) := (blk_cell BK509.out 0).trans rfl; have hcz12_1 : w11.cell? ⟨gb509, 1, none⟩ = some (.bool false) := (blk_cell BK509.out 1).trans rfl; have hcz12_2 : w11.cell? ⟨gb509, 2, none⟩ = some (.bool false) := (blk_cell BK509.out 2).trans rfl; have hcz12_3 : w11.cell? ⟨gb509, 3, none⟩ = some (.int .i64 0) := (blk_cell BK509.out 3).trans rfl; have hcz12_4 : w11.cell? ⟨gb509, 4, none⟩ = some (.int .i64 0) := (blk_cell BK509.out 4).trans rfl; have hfz12_0 := blk_frozen BK509.out 0; have hfz12_1 := blk_frozen BK509.out 1; have hfz12_2 := blk_frozen BK509.out 2; have hfz12_3 := blk_frozen BK509.out 3; have hfz12_4 := blk_frozen BK509.out 4))
  refine bodyPost_ret (results_cell_row rfl _ _ gb509 44 #[.int .i64 3, .bool false, .bool true, .int .i64 (wrap64 (t511 + 1)), .int .i64 (-1)] (0, 0) _ rfl (by (with_reducible repeat (first | refine blk_drewN ?_ _ | refine blk_drew ?_ | refine blk_alloc ?_ _)); refine blk_put (cs := #[.int .i64 3, .bool false, .bool true, .int .i64 (wrap64 (t511 + 1)), .int .i64 0]) ?_ 4 _ rfl; (with_reducible repeat (first | refine blk_drewN ?_ _ | refine blk_drew ?_ | refine blk_alloc ?_ _)); refine blk_put (cs := #[.int .i64 3, .bool false, .bool true, .int .i64 0, .int .i64 0]) ?_ 3 _ rfl; (with_reducible repeat (first | refine blk_drewN ?_ _ | refine blk_drew ?_ | refine blk_alloc ?_ _)); refine blk_put (cs := #[.int .i64 3, .bool false, .bool false, .int .i64 0, .int .i64 0]) ?_ 2 _ rfl; (with_reducible repeat (first | refine blk_drewN ?_ _ | refine blk_drew ?_ | refine blk_alloc ?_ _)); refine blk_put (cs := #[.int .i64 3, .bool false, .bool false, .int .i64 0, .int .i64 0]) ?_ 1 _ rfl; (with_reducible repeat (first | refine blk_drewN ?_ _ | refine blk_drew ?_ | refine blk_alloc ?_ _)); refine blk_put (cs := #[.int .i64 0, .bool false, .bool false, .int .i64 0, .int .i64 0]) ?_ 0 _ rfl; (with_reducible repeat (first | refine blk_drewN ?_ _ | refine blk_drew ?_ | refine blk_alloc ?_ _)); exact BK509.out) Try.underlying44 rfl (by kernel_rfl)) rfl ?_
  exact ⟨by first | rfl | (simp [errW_none, errW_some] <;> rfl) | (simp [*, errW_none, errW_some] <;> rfl), by repeat (first | (with_reducible first | exact HB.out | apply below_alloc | apply pw_below_drewN | apply below_drew1 | refine below_set ?_ GE508.out | refine below_set ?_ GE509.out) | exact HB.out)⟩
 ·
  replace c3 := Bool.eq_false_iff.mpr c3
  subst c3
  have H1 : (some (0, false, false, 0, 0)) = some (r1, r2, r3, r4, r5) := by rw [if_neg (show ¬ (false = true) by decide)] at H; exact H
  clear H
  have H := H1
  clear H1
  simp only [Option.some.injEq, Prod.mk.injEq] at H
  obtain ⟨rfl, rfl, rfl, rfl, rfl⟩ := H
  go_enter Try.func42, Try.ntmps42
  go_wp2_with (first | ((with_reducible refine gate_dst (N := 1) rfl ?_); refine box_event ?hg (N := 1) ?hd (cs := #[.slice A0_0 l0_0.length c0_0, .slice A0_1 l0_1.length c0_1]) (t := 27) ?hr ?_; (case hd => rfl); (case hg => rfl); (case hr => first | (go_simp; done) | (go_simp; rfl)); intro gb508 hg w13 hbox hb; have n0_ := Aside0.mk (below_step (by repeat (first | (with_reducible first | exact HB.out | apply below_alloc | apply pw_below_drewN | apply below_drew1) | exact HB.out)) hb); have n1_ := Aside0.mk (hbox); have n2_ := Aside0.mk ((by rw [hg]; exact (below_size (by repeat (first | (with_reducible first | exact HB.out | apply below_alloc | apply pw_below_drewN | apply below_drew1) | exact HB.out))) : w.heap.size ≤ gb508)); have n3_ := Aside0.mk ((by rw [hg]; exact (below_size (by repeat (first | (with_reducible first | exact HB.out | apply below_alloc | apply pw_below_drewN | apply below_drew1) | exact HB.out))) : w.heap.size ≤ gb508)); clear HB; have HB := n0_; have BK508 := n1_; have GW508 := n2_; have GE508 := n3_; clear n0_ n1_ n2_ n3_; clear hb hbox hg) | ((with_reducible refine gate_dst (N := 2) rfl ?_); refine box_event ?hg (N := 2) ?hd (cs := #[.int .i64 0, .bool false, .bool false, .int .i64 0, .int .i64 0]) (t := 44) ?hr ?_; (case hd => rfl); (case hg => rfl); (case hr => first | (go_simp; done) | (go_simp; rfl)); intro gb509 hg w14 hbox hb; have n0_ := Aside0.mk (blk_below (g := gb508) (o := .cells #[.slice A0_0 l0_0.length c0_0, .slice A0_1 l0_1.length c0_1] 27 (0, 0)) (by (with_reducible repeat (first | refine blk_drewN ?_ _ | refine blk_drew ?_ | refine blk_alloc ?_ _)); exact BK508.out) hb); have n1_ := Aside0.mk (below_step (by repeat (first | (with_reducible first | exact HB.out | apply below_alloc | apply pw_below_drewN | apply below_drew1 | refine below_set ?_ GE508.out) | exact HB.out)) hb); have n2_ := Aside0.mk (hbox); have n3_ := Aside0.mk ((by rw [hg]; exact (below_size (by repeat (first | (with_reducible first | exact HB.out | apply below_alloc | apply pw_below_drewN | apply below_drew1 | refine below_set ?_ GE508.out) | exact HB.out))) : w.heap.size ≤ gb509)); have n4_ := Aside0.mk ((by rw [hg]; exact (below_size (by repeat (first | (with_reducible first | exact HB.out | apply below_alloc | apply pw_below_drewN | apply below_drew1 | refine below_set ?_ GE508.out) | exact HB.out))) : w.heap.size ≤ gb509)); have n5_ := Aside0.mk ((by rw [hg]; exact Nat.ne_of_lt (blk_lt (g := gb508) (o := .cells #[.slice A0_0 l0_0.length c0_0, .slice A0_1 l0_1.length c0_1] 27 (0, 0)) (by (with_reducible repeat (first | refine blk_drewN ?_ _ | refine blk_drew ?_ | refine blk_alloc ?_ _)); exact BK508.out)) : gb508 ≠ gb509)); have n6_ := Aside0.mk ((by rw [hg]; exact Nat.ne_of_gt (blk_lt (g := gb508) (o := .cells #[.slice A0_0 l0_0.length c0_0, .slice A0_1 l0_1.length c0_1] 27 (0, 0)) (by (with_reducible repeat (first | refine blk_drewN ?_ _ | refine blk_drew ?_ | refine blk_alloc ?_ _)); exact BK508.out)) : gb509 ≠ gb508)); clear BK508; clear HB; have BK508 := n0_; have HB := n1_; have BK509 := n2_; have GW509 := n3_; have GE509 := n4_; have NB508_509 := n5_; have NB509_508 := n6_; clear n0_ n1_ n2_ n3_ n4_ n5_ n6_; clear hb hbox hg; have hnb15 := NB508_509.out; have hnc15 := NB509_508.out; have hcz16_0 : w14.cell? ⟨gb508, 0, none⟩ = some (.slice A0_0 l0_0.length c0_0) := (blk_cell BK508.out 0).trans rfl; have hcz16_1 : w14.cell? ⟨gb508, 1, none⟩ = some (.slice A0_1 l0_1.length c0_1) := (blk_cell BK508.out 1).trans rfl; have hfz16_0 := blk_frozen BK508.out 0; have hfz16_1 := blk_frozen BK508.out 1) | ((with_reducible refine gate_callee (f := 38) rfl ?_); refine goesL_ (some 4) rfl rfl Try.func38 (by kernel_rfl) rfl #[.agg #[.slice A0_0 l0_0.length c0_0, .slice A0_1 l0_1.length c0_1]] rfl (by (try simp only [List.map_toArray, List.map_cons, List.map_nil]); first | done | rfl | (simp only [List.length_drop, List.length_take]; rfl)) ?_; (with_reducible refine (bfs_Fit.calls k _ _ l0_0 _ _ l0_1 false _ ?side1 ?side2 ?side3 ?side4 A2.out).mono ?_); (case side1 => repeat (first | exact (Kd.C_below HR0_0.out HB.out) | (with_reducible refine Kd.C_alloc ?_ _) | (with_reducible refine Kd.C_drewN ?_ _) | (with_reducible refine Kd.C_drew ?_))); (case side2 => exact HC0_0.out); (case side3 => repeat (first | exact (Kd.C_below HR0_1.out HB.out) | (with_reducible refine Kd.C_alloc ?_ _) | (with_reducible refine Kd.C_drewN ?_ _) | (with_reducible refine Kd.C_drew ?_))); (case side4 => exact HC0_1.out); rintro e w17 ⟨rfl, hb⟩; refine ⟨_, rfl, ?_⟩; have n0_ := Aside0.mk (blk_below (g := gb508) (o := .cells #[.slice A0_0 l0_0.length c0_0, .slice A0_1 l0_1.length c0_1] 27 (0, 0)) (by (with_reducible repeat (first | refine blk_drewN ?_ _ | refine blk_drew ?_ | refine blk_alloc ?_ _)); exact BK508.out) hb); have n1_ := Aside0.mk (blk_below (g := gb509) (o := .cells #[.int .i64 0, .bool false, .bool false, .int .i64 0, .int .i64 0] 44 (0, 0)) (by (with_reducible repeat (first | refine blk_drewN ?_ _ | refine blk_drew ?_ | refine blk_alloc ?_ _)); exact BK509.out) hb); have n2_ := Aside0.mk (below_step (by repeat (first | (with_reducible first | exact HB.out | apply below_alloc | apply pw_below_drewN | apply below_drew1 | refine below_set ?_ GE508.out | refine below_set ?_ GE509.out) | exact HB.out)) hb); clear BK508; clear BK509; clear HB; have BK508 := n0_; have BK509 := n1_; have HB := n2_; clear n0_ n1_ n2_; (try clear hb); (try clear hb2); (try clear hk); (try clear hi); have hcz18_0 : w17.cell? ⟨gb509, 0, none⟩ = some (.int .i64 0) := (blk_cell BK509.out 0).trans rfl; have hcz18_1 : w17.cell? ⟨gb509, 1, none⟩ = some (.bool false) := (blk_cell BK509.out 1).trans rfl; have hcz18_2 : w17.cell? ⟨gb509, 2, none⟩ = some (.bool false) := (blk_cell BK509.out 2).trans rfl; have hcz18_3 : w17.cell? ⟨gb509, 3, none⟩ = some (.int .i64 0) := (blk_cell BK509.out 3).trans rfl; have hcz18_4 : w17.cell? ⟨gb509, 4, none⟩ = some (.int .i64 0) := (blk_cell BK509.out 4).trans rfl; have hfz18_0 := blk_frozen BK509.out 0; have hfz18_1 := blk_frozen BK509.out 1; have hfz18_2 := blk_frozen BK509.out 2; have hfz18_3 := blk_frozen BK509.out 3; have hfz18_4 := blk_frozen BK509.out 4))
  refine bodyPost_ret (results_cell_row rfl _ _ gb509 44 #[.int .i64 0, .bool false, .bool false, .int .i64 0, .int .i64 0] (0, 0) _ rfl (by (with_reducible repeat (first | refine blk_drewN ?_ _ | refine blk_drew ?_ | refine blk_alloc ?_ _)); refine blk_put (cs := #[.int .i64 0, .bool false, .bool false, .int .i64 0, .int .i64 0]) ?_ 4 _ rfl; (with_reducible repeat (first | refine blk_drewN ?_ _ | refine blk_drew ?_ | refine blk_alloc ?_ _)); refine blk_put (cs := #[.int .i64 0, .bool false, .bool false, .int .i64 0, .int .i64 0]) ?_ 3 _ rfl; (with_reducible repeat (first | refine blk_drewN ?_ _ | refine blk_drew ?_ | refine blk_alloc ?_ _)); refine blk_put (cs := #[.int .i64 0, .bool false, .bool false, .int .i64 0, .int .i64 0]) ?_ 2 _ rfl; (with_reducible repeat (first | refine blk_drewN ?_ _ | refine blk_drew ?_ | refine blk_alloc ?_ _)); refine blk_put (cs := #[.int .i64 0, .bool false, .bool false, .int .i64 0, .int .i64 0]) ?_ 1 _ rfl; (with_reducible repeat (first | refine blk_drewN ?_ _ | refine blk_drew ?_ | refine blk_alloc ?_ _)); refine blk_put (cs := #[.int .i64 0, .bool false, .bool false, .int .i64 0, .int .i64 0]) ?_ 0 _ rfl; (with_reducible repeat (first | refine blk_drewN ?_ _ | refine blk_drew ?_ | refine blk_alloc ?_ _)); exact BK509.out) Try.underlying44 rfl (by kernel_rfl)) rfl ?_
  exact ⟨by first | rfl | (simp [errW_none, errW_some] <;> rfl) | (simp [*, errW_none, errW_some] <;> rfl), by repeat (first | (with_reducible first | exact HB.out | apply below_alloc | apply pw_below_drewN | apply below_drew1 | refine below_set ?_ GE508.out | refine below_set ?_ GE509.out) | exact HB.out)⟩
end Go.Proofs.YthapikakneikbaaG
namespace Go.Proofs.YthapikakneikbaaG
open Go.RowKit Go.Proofs.YthapikakneikbaaW.PrintWords Go.Proofs.YthapikakneikbaaW.PrintLast Go.Proofs.YthapikakneikbaaW.PrintMore
attribute [local go_sem] max2_int min2_int max_two min_two max_three min_three max_four min_four   -- for this text's walks alone
set_option linter.unusedVariables false
set_option linter.unusedSimpArgs false
/-! ### selfstablaw23_sameInts: function 44 -/
def selfstablaw23_sameInts.l0 : Nat → List Int → List Int → Int → Option (Bool)
 | 0, _, _, _ => none
 | k + 1, x0, x1, x5 => if x5 < (x0.length : Int) then (if 0 ≤ x5 then (if x5 < (x1.length : Int) then (if (rd x0 x5) = (rd x1 x5) then (selfstablaw23_sameInts.l0 k x0 x1 (wrap64 (x5 + 1))) else (some false)) else (none)) else (none)) else (some true)
def selfstablaw23_sameInts.f (k : Nat) (l0 : List Int) (l1 : List Int) : Option (Bool) := if (l0.length : Int) = (l1.length : Int) then (selfstablaw23_sameInts.l0 k l0 l1 0) else (some false)
theorem selfstablaw23_sameInts.mono_l : ∀ k, (∀ y0 y1 y2, LeO (selfstablaw23_sameInts.l0 k y0 y1 y2) (selfstablaw23_sameInts.l0 (k + 1) y0 y1 y2))
 | 0 => fun _ _ _ r h => by simp [selfstablaw23_sameInts.l0] at h
 | k + 1 => by
  have ih0 := selfstablaw23_sameInts.mono_l k
  ·
   intro y0 y1 y2
   unfold selfstablaw23_sameInts.l0
   repeat' first
   | (with_reducible exact ih0 _ _ _)
   | (with_reducible exact LeO.refl _)
   | (with_reducible exact LeO.none _)
   | (with_reducible refine LeO.ite ?_ ?_)
   | (with_reducible refine LeO.bind ?_ (fun _ => ?_))
   | exact ih0 _ _ _
   | exact LeO.none _
   | refine LeO.ite ?_ ?_
   | refine LeO.bind ?_ (fun _ => ?_)
theorem selfstablaw23_sameInts.mono : ∀ a0 a1 k, LeO (selfstablaw23_sameInts.f k a0 a1) (selfstablaw23_sameInts.f (k + 1) a0 a1) := by
 intro a0 a1 k
 have ih0 := selfstablaw23_sameInts.mono_l k
 unfold selfstablaw23_sameInts.f
 repeat' first
   | (with_reducible exact ih0 _ _ _)
   | (with_reducible exact LeO.refl _)
   | (with_reducible exact LeO.none _)
   | (with_reducible refine LeO.ite ?_ ?_)
   | (with_reducible refine LeO.bind ?_ (fun _ => ?_))
   | exact ih0 _ _ _
   | exact LeO.none _
   | refine LeO.ite ?_ ?_
   | refine LeO.bind ?_ (fun _ => ?_)
set_option maxHeartbeats 8000000 in
set_option maxRecDepth 100000 in
theorem selfstablaw23_sameInts.calls (k : Nat) (A0 : Option Addr) (c0 : Nat) (l0 : List Int) (A1 : Option Addr) (c1 : Nat) (l1 : List Int) (r : Bool) (w : World) (hr0 : Kd.C (Kd.int .i64) w A0 l0.length l0) (hc0 : l0.length ≤ c0) (hr1 : Kd.C (Kd.int .i64) w A1 l1.length l1) (hc1 : l1.length ≤ c1) (h : selfstablaw23_sameInts.f k l0 l1 = some r) :
  Calls Try.prog 44 #[.slice A0 l0.length c0, .slice A1 l1.length c1] w fun e w' => e = .returned (.bool r) ∧ Drawn0 w w' := by
 have HR0 := Aside0.mk hr0
 have HC0 := Aside0.mk hc0
 clear hr0 hc0
 have HR1 := Aside0.mk hr1
 have HC1 := Aside0.mk hc1
 clear hr1 hc1
 have H : (if (l0.length : Int) = (l1.length : Int) then (selfstablaw23_sameInts.l0 k l0 l1 0) else (some false)) = some r := h
 clear h
 by_cases c3 : (l0.length : Int) = (l1.length : Int)
 ·
  rw [if_pos c3] at H
  have c3b0 : ((l0.length : Int) == (l1.length : Int)) = true := beq_iff_eq.mpr c3
  have c3b1 : ((l0.length : Int) != (l1.length : Int)) = false := bne_eq_false_iff_eq.mpr c3
  have c3b2 : (l0.length == l1.length) = true := by first | simpa using c3 | (simp at c3 ⊢; omega)
  clear c3
  have H' := Aside0.mk H
  clear H
  go_enter Try.func44, Try.ntmps44
  go_wp2
  repeat (go_quiet (fail); try go_wp2)
  go_loopg [5] k (fun kq v5 w' => ∃ (x5_1 : Int), v5 = .int .i64 x5_1 ∧ Aside0 (selfstablaw23_sameInts.l0 kq l0 l1 x5_1 = some r) ∧ Aside0 (kq ≤ k) ∧ Drawn0 w w')
  case atStart => exact ⟨(0), (by first | rfl | (simp; done) | (simp [*]; done)), H', ⟨Nat.le_refl _⟩, by repeat (first | exact Drawn0.refl _ | apply Drawn0.step)⟩
  case round =>
   clear H'
   try clear c1
   try clear p2
   try clear c3
   try clear c3b0
   try clear c3b1
   try clear c3b2
   obtain ⟨x5_1, rfl, HA, HK1, ⟨m1, rfl⟩⟩ := hrel
   cases gk with
   | zero => exact absurd HA.out (by simp [selfstablaw23_sameInts.l0])
   | succ k1 =>
    have H := HA.out
    clear HA
    simp only [selfstablaw23_sameInts.l0] at H
    by_cases c4 : x5_1 < (l0.length : Int)
    ·
     rw [if_pos c4] at H
     have c4b0 : decide (x5_1 < (l0.length : Int)) = true := decide_eq_true c4
     clear c4
     by_cases c5 : 0 ≤ x5_1
     ·
      rw [if_pos c5] at H
      have c5b0 : decide (0 ≤ x5_1) = true := decide_eq_true c5
      clear c5
      by_cases c6 : x5_1 < (l1.length : Int)
      ·
       rw [if_pos c6] at H
       have c6b0 : decide (x5_1 < (l1.length : Int)) = true := decide_eq_true c6
       clear c6
       by_cases c7 : (rd l0 x5_1) = (rd l1 x5_1)
       ·
        rw [if_pos c7] at H
        have c7b0 : ((rd l0 x5_1) == (rd l1 x5_1)) = true := beq_iff_eq.mpr c7
        have c7b1 : ((rd l0 x5_1) != (rd l1 x5_1)) = false := bne_eq_false_iff_eq.mpr c7
        clear c7
        have H' := Aside0.mk H
        clear H
        have p512 : 0 ≤ (x5_1 : Int) := of_decide_eq_true (by first | (with_reducible assumption) | assumption)
        have q512 : x5_1 < (l0.length : Int) := of_decide_eq_true (by first | (with_reducible assumption) | assumption)
        obtain ⟨ad512, e512, hx512_0⟩ := Kd.at_int HR0.out x5_1 p512 q512
        cases e512
        replace p512 := eq_true p512
        replace q512 := eq_true q512
        have p513 : 0 ≤ (x5_1 : Int) := of_decide_eq_true (by first | (with_reducible assumption) | assumption)
        have q513 : x5_1 < (l1.length : Int) := of_decide_eq_true (by first | (with_reducible assumption) | assumption)
        obtain ⟨ad513, e513, hx513_0⟩ := Kd.at_int HR1.out x5_1 p513 q513
        cases e513
        replace p513 := eq_true p513
        replace q513 := eq_true q513
        go_wp2
        repeat (go_quiet (fail); try go_wp2)
        go_roundg k1
        case measure => have := HK1.out; omega
        case rel => exact ⟨(wrap64 (x5_1 + 1)), (by first | rfl | (simp; done) | (simp [*]; done)), H', ⟨by have := HK1.out; omega⟩, by repeat (first | exact Drawn0.refl _ | apply Drawn0.step)⟩
       ·
        rw [if_neg c7] at H
        have c7b0 : ((rd l0 x5_1) == (rd l1 x5_1)) = false := beq_eq_false_iff_ne.mpr c7
        have c7b1 : ((rd l0 x5_1) != (rd l1 x5_1)) = true := bne_iff_ne.mpr c7
        obtain rfl := Option.some.inj H
        have p512 : 0 ≤ (x5_1 : Int) := of_decide_eq_true (by first | (with_reducible assumption) | assumption)
        have q512 : x5_1 < (l0.length : Int) := of_decide_eq_true (by first | (with_reducible assumption) | assumption)
        obtain ⟨ad512, e512, hx512_0⟩ := Kd.at_int HR0.out x5_1 p512 q512
        cases e512
        replace p512 := eq_true p512
        replace q512 := eq_true q512
        have p513 : 0 ≤ (x5_1 : Int) := of_decide_eq_true (by first | (with_reducible assumption) | assumption)
        have q513 : x5_1 < (l1.length : Int) := of_decide_eq_true (by first | (with_reducible assumption) | assumption)
        obtain ⟨ad513, e513, hx513_0⟩ := Kd.at_int HR1.out x5_1 p513 q513
        cases e513
        replace p513 := eq_true p513
        replace q513 := eq_true q513
        go_wp2
        repeat (go_quiet (fail); try go_wp2)
        go_ret
        exact ⟨by first | rfl | (simp; done) | (simp [*]; done), by repeat (first | exact Drawn0.refl _ | apply Drawn0.step)⟩
      ·
       rw [if_neg c6] at H
       exact absurd H (by simp)
     ·
      rw [if_neg c5] at H
      exact absurd H (by simp)
    ·
     rw [if_neg c4] at H
     have c4b0 : decide (x5_1 < (l0.length : Int)) = false := decide_eq_false c4
     clear c4
     obtain rfl := Option.some.inj H
     go_wp2
     repeat (go_quiet (fail); try go_wp2)
     go_ret
     exact ⟨by first | rfl | (simp; done) | (simp [*]; done), by repeat (first | exact Drawn0.refl _ | apply Drawn0.step)⟩
 ·
  rw [if_neg c3] at H
  have c3b0 : ((l0.length : Int) == (l1.length : Int)) = false := beq_eq_false_iff_ne.mpr c3
  have c3b1 : ((l0.length : Int) != (l1.length : Int)) = true := bne_iff_ne.mpr c3
  have c3b2 : (l0.length == l1.length) = false := by first | simpa using c3 | (simp at c3 ⊢; omega)
  obtain rfl := Option.some.inj H
  go_enter Try.func44, Try.ntmps44
  go_wp2
  repeat (go_quiet (fail); try go_wp2)
  go_ret
  exact ⟨by first | rfl | (simp; done) | (simp [*]; done), by repeat (first | exact Drawn0.refl _ | apply Drawn0.step)⟩
end Go.Proofs.YthapikakneikbaaG
namespace Go.Proofs.YthapikakneikbaaG
open Go.RowKit Go.Proofs.YthapikakneikbaaW.PrintWords Go.Proofs.YthapikakneikbaaW.PrintLast Go.Proofs.YthapikakneikbaaW.PrintMore
attribute [local go_sem] max2_int min2_int max_two min_two max_three min_three max_four min_four   -- for this text's walks alone
set_option linter.unusedVariables false
set_option linter.unusedSimpArgs false
/-! ### shape_At: function 96 -/
def shape_At.f (l0_0 : List Int) (l0_1 : List (List (S60))) (a1 : Int) (a2 : Int) : Option (Int) := if a2 < 0 then (some (-1)) else (if 0 ≤ a1 then (if a1 < (l0_1.length : Int) then (if 0 ≤ a2 then (if a2 < ((rd_L2 l0_1 a1).length : Int) then (some ((rd_T60 (rd_L2 l0_1 a1) a2).f0)) else (none)) else (none)) else (none)) else (none))
set_option maxHeartbeats 8000000 in
set_option maxRecDepth 100000 in
theorem shape_At.calls (A0_0 : Option Addr) (c0_0 : Nat) (l0_0 : List Int) (A0_1 : Option Addr) (c0_1 : Nat) (l0_1 : List (List (S60))) (a1 : Int) (a2 : Int) (r : Int) (w : World) (hr0_0 : Kd.C (Kd.int .i64) w A0_0 l0_0.length l0_0) (hc0_0 : l0_0.length ≤ c0_0) (hr0_1 : Kd.C (Kd.slice 60 k60) w A0_1 l0_1.length l0_1) (hc0_1 : l0_1.length ≤ c0_1) (h : shape_At.f l0_0 l0_1 a1 a2 = some r) :
  Calls Try.prog 96 #[.agg #[.slice A0_0 l0_0.length c0_0, .slice A0_1 l0_1.length c0_1], .int .i64 a1, .int .i64 a2] w fun e w' => e = .returned (.int .i64 r) ∧ Below w.heap.size w w' := by
 have hu27 := Try.underlying27
 have HR0_0 := Aside0.mk hr0_0
 have HC0_0 := Aside0.mk hc0_0
 clear hr0_0 hc0_0
 have HR0_1 := Aside0.mk hr0_1
 have HC0_1 := Aside0.mk hc0_1
 clear hr0_1 hc0_1
 have HB := Aside0.mk (Below.refl w.heap.size w)
 have H : (if a2 < 0 then (some (-1)) else (if 0 ≤ a1 then (if a1 < (l0_1.length : Int) then (if 0 ≤ a2 then (if a2 < ((rd_L2 l0_1 a1).length : Int) then (some ((rd_T60 (rd_L2 l0_1 a1) a2).f0)) else (none)) else (none)) else (none)) else (none))) = some r := h
 clear h
 by_cases c4 : a2 < 0
 ·
  rw [if_pos c4] at H
  have c4b0 : decide (a2 < 0) = true := decide_eq_true c4
  clear c4
  obtain rfl := Option.some.inj H
  go_enter Try.func96, Try.ntmps96
  go_wp2_with (first | ((with_reducible refine gate_dst (N := 3) rfl ?_); refine box_event ?hg (N := 3) ?hd (cs := #[.slice A0_0 l0_0.length c0_0, .slice A0_1 l0_1.length c0_1]) (t := 27) ?hr ?_; (case hd => rfl); (case hg => rfl); (case hr => first | (go_simp; done) | (go_simp; rfl)); intro gb514 hg w5 hbox hb; have n0_ := Aside0.mk (below_step (by repeat (first | (with_reducible first | exact HB.out | apply below_alloc | apply pw_below_drewN | apply below_drew1) | exact HB.out)) hb); have n1_ := Aside0.mk (hbox); have n2_ := Aside0.mk ((by rw [hg]; exact (below_size (by repeat (first | (with_reducible first | exact HB.out | apply below_alloc | apply pw_below_drewN | apply below_drew1) | exact HB.out))) : w.heap.size ≤ gb514)); have n3_ := Aside0.mk ((by rw [hg]; exact (below_size (by repeat (first | (with_reducible first | exact HB.out | apply below_alloc | apply pw_below_drewN | apply below_drew1) | exact HB.out))) : w.heap.size ≤ gb514)); clear HB; have HB := n0_; have BK514 := n1_; have GW514 := n2_; have GE514 := n3_; clear n0_ n1_ n2_ n3_; clear hb hbox hg))
  go_ret
  exact ⟨by first | rfl | (simp [errW_none, errW_some] <;> rfl) | (simp [*, errW_none, errW_some] <;> rfl), by repeat (first | (with_reducible first | exact HB.out | apply below_alloc | apply pw_below_drewN | apply below_drew1 | refine below_set ?_ GE514.out) | exact HB.out)⟩
 ·
  rw [if_neg c4] at H
  have c4b0 : decide (a2 < 0) = false := decide_eq_false c4
  clear c4
  by_cases c6 : 0 ≤ a1
  ·
   rw [if_pos c6] at H
   have c6b0 : decide (0 ≤ a1) = true := decide_eq_true c6
   clear c6
   by_cases c7 : a1 < (l0_1.length : Int)
   ·
    rw [if_pos c7] at H
    have c7b0 : decide (a1 < (l0_1.length : Int)) = true := decide_eq_true c7
    clear c7
    by_cases c8 : 0 ≤ a2
    ·
     rw [if_pos c8] at H
     have c8b0 : decide (0 ≤ a2) = true := decide_eq_true c8
     clear c8
     by_cases c9 : a2 < ((rd_L2 l0_1 a1).length : Int)
     ·
      rw [if_pos c9] at H
      have c9b0 : decide (a2 < ((rd_L2 l0_1 a1).length : Int)) = true := decide_eq_true c9
      clear c9
      obtain rfl := Option.some.inj H
      go_enter Try.func96, Try.ntmps96
      go_wp2_with (first | ((with_reducible refine gate_dst (N := 3) rfl ?_); refine box_event ?hg (N := 3) ?hd (cs := #[.slice A0_0 l0_0.length c0_0, .slice A0_1 l0_1.length c0_1]) (t := 27) ?hr ?_; (case hd => rfl); (case hg => rfl); (case hr => first | (go_simp; done) | (go_simp; rfl)); intro gb514 hg w10 hbox hb; have n0_ := Aside0.mk (below_step (by repeat (first | (with_reducible first | exact HB.out | apply below_alloc | apply pw_below_drewN | apply below_drew1) | exact HB.out)) hb); have n1_ := Aside0.mk (hbox); have n2_ := Aside0.mk ((by rw [hg]; exact (below_size (by repeat (first | (with_reducible first | exact HB.out | apply below_alloc | apply pw_below_drewN | apply below_drew1) | exact HB.out))) : w.heap.size ≤ gb514)); have n3_ := Aside0.mk ((by rw [hg]; exact (below_size (by repeat (first | (with_reducible first | exact HB.out | apply below_alloc | apply pw_below_drewN | apply below_drew1) | exact HB.out))) : w.heap.size ≤ gb514)); clear HB; have HB := n0_; have BK514 := n1_; have GW514 := n2_; have GE514 := n3_; clear n0_ n1_ n2_ n3_; clear hb hbox hg; have hcz11_0 : w10.cell? ⟨gb514, 0, none⟩ = some (.slice A0_0 l0_0.length c0_0) := (blk_cell BK514.out 0).trans rfl; have hcz11_1 : w10.cell? ⟨gb514, 1, none⟩ = some (.slice A0_1 l0_1.length c0_1) := (blk_cell BK514.out 1).trans rfl; have hfz11_0 := blk_frozen BK514.out 0; have hfz11_1 := blk_frozen BK514.out 1; have p515 : 0 ≤ (a1 : Int) := of_decide_eq_true (by first | (with_reducible assumption) | assumption); have q515 : a1 < (l0_1.length : Int) := of_decide_eq_true (by first | (with_reducible assumption) | assumption); obtain ⟨ad515, A515_0, c515_0, e515, hx515_0, hl515_0, hi515_0⟩ := at_L2 HR0_1.out a1 p515 q515; cases e515; replace hx515_0 := (HB.out.cell (World.block_lt_of_cell? w _ hx515_0)).trans hx515_0; have HR515_0 := Aside0.mk hi515_0; have HC515_0 := Aside0.mk hl515_0; clear hi515_0 hl515_0; replace p515 := eq_true p515; replace q515 := eq_true q515; have p516 : 0 ≤ (a2 : Int) := of_decide_eq_true (by first | (with_reducible assumption) | assumption); have q516 : a2 < ((rd_L2 l0_1 a1).length : Int) := of_decide_eq_true (by first | (with_reducible assumption) | assumption); obtain ⟨ad516, e516, hx516_0, hx516_1⟩ := at_T60 HR515_0.out a2 p516 q516; cases e516; replace hx516_0 := (HB.out.cell (World.block_lt_of_cell? w _ hx516_0)).trans hx516_0; replace hx516_1 := (HB.out.cell (World.block_lt_of_cell? w _ hx516_1)).trans hx516_1; replace p516 := eq_true p516; replace q516 := eq_true q516))
      go_ret
      exact ⟨by first | rfl | (simp [errW_none, errW_some] <;> rfl) | (simp [*, errW_none, errW_some] <;> rfl), by repeat (first | (with_reducible first | exact HB.out | apply below_alloc | apply pw_below_drewN | apply below_drew1 | refine below_set ?_ GE514.out) | exact HB.out)⟩
     ·
      rw [if_neg c9] at H
      exact absurd H (by simp)
    ·
     rw [if_neg c8] at H
     exact absurd H (by simp)
   ·
    rw [if_neg c7] at H
    exact absurd H (by simp)
  ·
   rw [if_neg c6] at H
   exact absurd H (by simp)
end Go.Proofs.YthapikakneikbaaG
namespace Go.Proofs.YthapikakneikbaaG
open Go.RowKit Go.Proofs.YthapikakneikbaaW.PrintWords Go.Proofs.YthapikakneikbaaW.PrintLast Go.Proofs.YthapikakneikbaaW.PrintMore
attribute [local go_sem] max2_int min2_int max_two min_two max_three min_three max_four min_four   -- for this text's walks alone
set_option linter.unusedVariables false
set_option linter.unusedSimpArgs false
/-! ### bfs_Parents: function 45 -/
def bfs_Parents.l0 : Nat → List Int → List (List Int) → Int → Int → List Int → List (List (S60)) → Option (List Int)
 | 0, _, _, _, _, _, _ => none
 | k + 1, x5, x15, x16, x17, x518000, x518001 => if x17 < x16 then (if 0 ≤ x17 then (if x17 < (x15.length : Int) then (if 1 < ((rd_L3 x15 x17).length : Int) then ((shape_At.f x518000 x518001 x17 (rd (rd_L3 x15 x17) 1)).bind fun t524 => (if x17 < (x5.length : Int) then (bfs_Parents.l0 k (x5.set (x17 : Int).toNat t524) x15 x16 (wrap64 (x17 + 1)) x518000 x518001) else (none))) else (none)) else (none)) else (none)) else (some x5)
def bfs_Parents.f (k : Nat) (l0_0 : List Int) (l0_1 : List (List (S60))) (l1 : List (List Int)) : Option (List Int) := (bfs_configuration.f k l0_0 l0_1 l1).bind fun t518 => (if t518 = true then (if 0 ≤ (l1.length : Int) then (if ((l1.length : Int) : Int).toNat ≤ 35184372088832 then (bfs_Parents.l0 k (List.replicate ((l1.length : Int) : Int).toNat 0) l1 (l1.length : Int) 0 l0_0 l0_1) else (none)) else (none)) else (some ([] : List Int)))
theorem bfs_Parents.mono_l : ∀ k, (∀ y0 y1 y2 y3 y4 y5, LeO (bfs_Parents.l0 k y0 y1 y2 y3 y4 y5) (bfs_Parents.l0 (k + 1) y0 y1 y2 y3 y4 y5))
 | 0 => fun _ _ _ _ _ _ r h => by simp [bfs_Parents.l0] at h
 | k + 1 => by
  have ih0 := bfs_Parents.mono_l k
  ·
   intro y0 y1 y2 y3 y4 y5
   unfold bfs_Parents.l0
   repeat' first
   | (with_reducible exact ih0 _ _ _ _ _ _)
   | (with_reducible exact bfs_configuration.mono _ _ _ _)
   | (with_reducible exact LeO.refl _)
   | (with_reducible exact LeO.none _)
   | (with_reducible refine LeO.ite ?_ ?_)
   | (with_reducible refine LeO.bind ?_ (fun _ => ?_))
   | exact ih0 _ _ _ _ _ _
   | exact bfs_configuration.mono _ _ _ _
   | exact LeO.none _
   | refine LeO.ite ?_ ?_
   | refine LeO.bind ?_ (fun _ => ?_)
theorem bfs_Parents.mono : ∀ a0 a1 a2 k, LeO (bfs_Parents.f k a0 a1 a2) (bfs_Parents.f (k + 1) a0 a1 a2) := by
 intro a0 a1 a2 k
 have ih0 := bfs_Parents.mono_l k
 unfold bfs_Parents.f
 repeat' first
   | (with_reducible exact ih0 _ _ _ _ _ _)
   | (with_reducible exact bfs_configuration.mono _ _ _ _)
   | (with_reducible exact LeO.refl _)
   | (with_reducible exact LeO.none _)
   | (with_reducible refine LeO.ite ?_ ?_)
   | (with_reducible refine LeO.bind ?_ (fun _ => ?_))
   | exact ih0 _ _ _ _ _ _
   | exact bfs_configuration.mono _ _ _ _
   | exact LeO.none _
   | refine LeO.ite ?_ ?_
   | refine LeO.bind ?_ (fun _ => ?_)
def bfs_Parents.T7 : Bool × List (List Nat × List Nat) := (true, [([], []), ([], []), ([], []), ([], []), ([], []), ([4], [4]), ([5], [5]), ([2, 3, 6], [2, 3, 6]), ([0, 1, 0, 1, 2, 3, 4, 5, 6, 7], [0, 1]), ([8, 7, 7, 0, 1, 2, 3, 4, 5, 6, 7], [7, 8])])
def bfs_Parents.B7 : List Nat := [0, 0, 0, 0, 0, 16, 48, 124, 255, 511]
theorem bfs_Parents.tab7 : rtab .any (opsOf Try.f45 7) = bfs_Parents.T7 := by kernel_rfl
theorem bfs_Parents.bits7 : waitsOk bfs_Parents.T7.2 bfs_Parents.B7 = true := by kernel_rfl
set_option maxHeartbeats 8000000 in
set_option maxRecDepth 100000 in
theorem bfs_Parents.calls (k : Nat) (A0_0 : Option Addr) (c0_0 : Nat) (l0_0 : List Int) (A0_1 : Option Addr) (c0_1 : Nat) (l0_1 : List (List (S60))) (A1 : Option Addr) (c1 : Nat) (l1 : List (List Int)) (r : List Int) (w : World) (hr0_0 : Kd.C (Kd.int .i64) w A0_0 l0_0.length l0_0) (hc0_0 : l0_0.length ≤ c0_0) (hr0_1 : Kd.C (Kd.slice 60 k60) w A0_1 l0_1.length l0_1) (hc0_1 : l0_1.length ≤ c0_1) (hr1 : Kd.C (Kd.slice 3 (Kd.int .i64)) w A1 l1.length l1) (hc1 : l1.length ≤ c1) (h : bfs_Parents.f k l0_0 l0_1 l1 = some r) :
  Calls Try.prog 45 #[.agg #[.slice A0_0 l0_0.length c0_0, .slice A0_1 l0_1.length c0_1], .slice A1 l1.length c1] w fun e w' => ∃ v0_ : Value, e = .returned (v0_) ∧ Kd.R (Kd.int .i64) 3 w' w.heap.size (fun _ => True) v0_ r ∧ Below w.heap.size w w' := by
 have hu27 := Try.underlying27
 have HR0_0 := Aside0.mk hr0_0
 have HC0_0 := Aside0.mk hc0_0
 clear hr0_0 hc0_0
 have HR0_1 := Aside0.mk hr0_1
 have HC0_1 := Aside0.mk hc0_1
 clear hr0_1 hc0_1
 have HR1 := Aside0.mk hr1
 have HC1 := Aside0.mk hc1
 clear hr1 hc1
 have HB := Aside0.mk (Below.refl w.heap.size w)
 have H : ((bfs_configuration.f k l0_0 l0_1 l1).bind fun t518 => (if t518 = true then (if 0 ≤ (l1.length : Int) then (if ((l1.length : Int) : Int).toNat ≤ 35184372088832 then (bfs_Parents.l0 k (List.replicate ((l1.length : Int) : Int).toNat 0) l1 (l1.length : Int) 0 l0_0 l0_1) else (none)) else (none)) else (some ([] : List Int)))) = some r := h
 clear h
 replace H := Option.bind_eq_some_iff.mp H
 obtain ⟨t518, A30, H⟩ := H
 replace H : (if t518 = true then (if 0 ≤ (l1.length : Int) then (if ((l1.length : Int) : Int).toNat ≤ 35184372088832 then (bfs_Parents.l0 k (List.replicate ((l1.length : Int) : Int).toNat 0) l1 (l1.length : Int) 0 l0_0 l0_1) else (none)) else (none)) else (some ([] : List Int))) = some r := H
 have A3 := Aside0.mk A30
 clear A30
 by_cases c4 : t518 = true
 ·
  subst c4
  have H1 : (if 0 ≤ (l1.length : Int) then (if ((l1.length : Int) : Int).toNat ≤ 35184372088832 then (bfs_Parents.l0 k (List.replicate ((l1.length : Int) : Int).toNat 0) l1 (l1.length : Int) 0 l0_0 l0_1) else (none)) else (none)) = some r := by rw [if_pos rfl] at H; exact H
  clear H
  have H := H1
  clear H1
  by_cases c5 : 0 ≤ (l1.length : Int)
  ·
   rw [if_pos c5] at H
   have c5b0 := eq_true c5
   have c5b1 : decide (0 ≤ (l1.length : Int)) = true := decide_eq_true c5
   clear c5
   by_cases c6 : ((l1.length : Int) : Int).toNat ≤ 35184372088832
   ·
    rw [if_pos c6] at H
    have c6b0 := eq_true c6
    have c6b1 : decide (((l1.length : Int) : Int).toNat ≤ 35184372088832) = true := decide_eq_true c6
    clear c6
    obtain ⟨y519, hy519⟩ : ∃ y_ : List Int, y_ = (List.replicate ((l1.length : Int) : Int).toNat 0) := ⟨_, rfl⟩
    replace H : (bfs_Parents.l0 k y519 l1 (l1.length : Int) 0 l0_0 l0_1) = some r := by first | (rw [hy519]; with_reducible exact H) | (have H2_ := (Option.bind_some _ _).symm.trans H; rw [hy519]; with_reducible exact H2_) | (have H2_ := (Option.bind_some _ _).symm.trans H; with_reducible exact H2_) | with_reducible exact H | (rw [hy519]; exact H) | exact H
    have Ny519 := Aside0.mk hy519
    clear hy519
    have H' := Aside0.mk H
    clear H
    go_enter Try.func45, Try.ntmps45
    go_wp2_with (first | ((with_reducible refine gate_dst (N := 2) rfl ?_); refine box_event ?hg (N := 2) ?hd (cs := #[.slice A0_0 l0_0.length c0_0, .slice A0_1 l0_1.length c0_1]) (t := 27) ?hr ?_; (case hd => rfl); (case hg => rfl); (case hr => first | (go_simp; done) | (go_simp; rfl)); intro gb517 hg w7 hbox hb; have n0_ := Aside0.mk (below_step (by repeat (first | (with_reducible first | exact HB.out | apply below_alloc | apply pw_below_drewN | apply below_drew1) | exact HB.out)) hb); have n1_ := Aside0.mk (hbox); have n2_ := Aside0.mk ((by rw [hg]; exact (below_size (by repeat (first | (with_reducible first | exact HB.out | apply below_alloc | apply pw_below_drewN | apply below_drew1) | exact HB.out))) : w.heap.size ≤ gb517)); have n3_ := Aside0.mk ((by rw [hg]; exact (below_size (by repeat (first | (with_reducible first | exact HB.out | apply below_alloc | apply pw_below_drewN | apply below_drew1) | exact HB.out))) : w.heap.size ≤ gb517)); clear HB; have HB := n0_; have BK517 := n1_; have GW517 := n2_; have GE517 := n3_; clear n0_ n1_ n2_ n3_; clear hb hbox hg; have hcz8_0 : w7.cell? ⟨gb517, 0, none⟩ = some (.slice A0_0 l0_0.length c0_0) := (blk_cell BK517.out 0).trans rfl; have hcz8_1 : w7.cell? ⟨gb517, 1, none⟩ = some (.slice A0_1 l0_1.length c0_1) := (blk_cell BK517.out 1).trans rfl; have hfz8_0 := blk_frozen BK517.out 0; have hfz8_1 := blk_frozen BK517.out 1) | ((with_reducible refine gate_callee (f := 89) rfl ?_); refine goesL_ (some 10) rfl rfl Try.func89 (by kernel_rfl) rfl #[.agg #[.slice A0_0 l0_0.length c0_0, .slice A0_1 l0_1.length c0_1], .slice A1 l1.length c1] rfl (by (try simp only [List.map_toArray, List.map_cons, List.map_nil]); first | done | rfl | (simp only [List.length_drop, List.length_take]; rfl)) ?_; (with_reducible refine (bfs_configuration.calls k _ _ l0_0 _ _ l0_1 _ _ l1 true _ ?side1 ?side2 ?side3 ?side4 ?side5 ?side6 A3.out).mono ?_); (case side1 => repeat (first | exact (Kd.C_below HR0_0.out HB.out) | (with_reducible refine Kd.C_alloc ?_ _) | (with_reducible refine Kd.C_drewN ?_ _) | (with_reducible refine Kd.C_drew ?_))); (case side2 => exact HC0_0.out); (case side3 => repeat (first | exact (Kd.C_below HR0_1.out HB.out) | (with_reducible refine Kd.C_alloc ?_ _) | (with_reducible refine Kd.C_drewN ?_ _) | (with_reducible refine Kd.C_drew ?_))); (case side4 => exact HC0_1.out); (case side5 => repeat (first | exact (Kd.C_below HR1.out HB.out) | (with_reducible refine Kd.C_alloc ?_ _) | (with_reducible refine Kd.C_drewN ?_ _) | (with_reducible refine Kd.C_drew ?_))); (case side6 => exact HC1.out); rintro e w9 ⟨rfl, hb⟩; refine ⟨_, rfl, ?_⟩; have n0_ := Aside0.mk (blk_below (g := gb517) (o := .cells #[.slice A0_0 l0_0.length c0_0, .slice A0_1 l0_1.length c0_1] 27 (0, 0)) (by (with_reducible repeat (first | refine blk_drewN ?_ _ | refine blk_drew ?_ | refine blk_alloc ?_ _)); exact BK517.out) hb); have n1_ := Aside0.mk (below_step (by repeat (first | (with_reducible first | exact HB.out | apply below_alloc | apply pw_below_drewN | apply below_drew1 | refine below_set ?_ GE517.out) | exact HB.out)) hb); clear BK517; clear HB; have BK517 := n0_; have HB := n1_; clear n0_ n1_; (try clear hb); (try clear hb2); (try clear hk); (try clear hi)) | ((with_reducible refine gate_dst (N := 14) rfl ?_); refine Kd.R_make (Kd.int .i64) _ 3 rfl (N := 14) rfl 22 _ _ rfl (l1.length : Int) rfl rfl Try.underlying22 (.int .i64 0) 8 info3 rfl (by decide) (by omega) 0 (ok := fun _ => True) (okp := fun _ => True) rfl (fun _ hk => hk) trivial (of_decide_eq_true (by first | (with_reducible assumption) | assumption)) (Nat.le_trans (Nat.mul_le_mul_right _ (of_decide_eq_true (by first | (with_reducible assumption) | assumption) : (l1.length : Int).toNat ≤ 35184372088832)) (by omega)) (Below.refl _ _) (Nat.le_refl _) ?_; intro v520 w10 ho11 hb hg_ hnew_; clear hg_ hnew_; (first | rw [← Ny519.out] at ho11 | (simp only [Int.reduceToNat] at ho11; rw [← Ny519.out] at ho11)); have n0_ := Aside0.mk (Kd.R_lower ho11 (below_size (by repeat (first | (with_reducible first | exact HB.out | apply below_alloc | apply pw_below_drewN | apply below_drew1 | refine below_set ?_ GE517.out) | exact HB.out)))); have n1_ := Aside0.mk (blk_below (g := gb517) (o := .cells #[.slice A0_0 l0_0.length c0_0, .slice A0_1 l0_1.length c0_1] 27 (0, 0)) (by (with_reducible repeat (first | refine blk_drewN ?_ _ | refine blk_drew ?_ | refine blk_alloc ?_ _)); exact BK517.out) hb); have n2_ := Aside0.mk (below_step (by repeat (first | (with_reducible first | exact HB.out | apply below_alloc | apply pw_below_drewN | apply below_drew1 | refine below_set ?_ GE517.out) | exact HB.out)) hb); clear BK517; clear HB; have HO521 := n0_; have BK517 := n1_; have HB := n2_; clear n0_ n1_ n2_; clear hb ho11))
    go_loopg [17] k (fun kq v17 w' => ∃ (x5_1 : List Int) (x17_1 : Int), v17 = .int .i64 x17_1 ∧ Aside0 (bfs_Parents.l0 kq x5_1 l1 (l1.length : Int) x17_1 l0_0 l0_1 = some r) ∧ Aside0 (kq ≤ k) ∧ Aside0 (Kd.R (Kd.int .i64) 3 w' w.heap.size (fun _ => True) v520 x5_1) ∧ Aside0 (w'.heap[gb517]? = some (.cells #[(.slice A0_0 l0_0.length c0_0), (.slice A0_1 l0_1.length c0_1)] 27 (0, 0))) ∧ Aside0 (Below w.heap.size w w'))
    case atStart => exact ⟨(y519), (0), (by first | rfl | (simp; done) | (simp [*]; done)), H', ⟨Nat.le_refl _⟩, ⟨by (with_reducible repeat (first | apply Kd.R_alloc | apply Kd.R_drewN | apply Kd.R_drew)); exact HO521.out⟩, ⟨by (with_reducible repeat (first | refine blk_drewN ?_ _ | refine blk_drew ?_ | refine blk_alloc ?_ _)); exact BK517.out⟩, ⟨by repeat (first | (with_reducible first | exact HB.out | apply below_alloc | apply pw_below_drewN | apply below_drew1 | refine below_set ?_ GE517.out) | exact HB.out)⟩⟩
    case round =>
     clear H'
     try clear c1
     try clear p2
     try clear c4
     try clear c5
     try clear c5b0
     try clear c5b1
     try clear c6
     try clear c6b0
     try clear c6b1
     try clear c8
     try clear hcz8_0
     try clear hcz8_1
     try clear hfz8_0
     try clear hfz8_1
     obtain ⟨x5_1, x17_1, rfl, HA, HK1, HO_5, BK517, HB⟩ := hrel
     cases gk with
     | zero => exact absurd HA.out (by simp [bfs_Parents.l0])
     | succ k1 =>
      have H := HA.out
      clear HA
      simp only [bfs_Parents.l0] at H
      by_cases c12 : x17_1 < (l1.length : Int)
      ·
       rw [if_pos c12] at H
       have c12b0 : decide (x17_1 < (l1.length : Int)) = true := decide_eq_true c12
       clear c12
       by_cases c13 : 0 ≤ x17_1
       ·
        rw [if_pos c13] at H
        have c13b0 : decide (0 ≤ x17_1) = true := decide_eq_true c13
        clear c13
        by_cases c14 : x17_1 < (l1.length : Int)
        ·
         rw [if_pos c14] at H
         have c14b0 : decide (x17_1 < (l1.length : Int)) = true := decide_eq_true c14
         clear c14
         by_cases c15 : 1 < ((rd_L3 l1 x17_1).length : Int)
         ·
          rw [if_pos c15] at H
          have c15b0 : decide (1 < ((rd_L3 l1 x17_1).length : Int)) = true := decide_eq_true c15
          have c15b1 : decide (1 < (rd_L3 l1 x17_1).length) = true := decide_eq_true (by omega)
          clear c15
          replace H := Option.bind_eq_some_iff.mp H
          obtain ⟨t524, A160, H⟩ := H
          replace H : (if x17_1 < (x5_1.length : Int) then (bfs_Parents.l0 k1 (x5_1.set (x17_1 : Int).toNat t524) l1 (l1.length : Int) (wrap64 (x17_1 + 1)) l0_0 l0_1) else (none)) = some r := H
          have A16 := Aside0.mk A160
          clear A160
          by_cases c17 : x17_1 < (x5_1.length : Int)
          ·
           rw [if_pos c17] at H
           have c17b0 : decide (x17_1 < (x5_1.length : Int)) = true := decide_eq_true c17
           clear c17
           obtain ⟨y525, hy525⟩ : ∃ y_ : List Int, y_ = (x5_1.set (x17_1 : Int).toNat t524) := ⟨_, rfl⟩
           replace H : (bfs_Parents.l0 k1 y525 l1 (l1.length : Int) (wrap64 (x17_1 + 1)) l0_0 l0_1) = some r := by first | (rw [hy525]; with_reducible exact H) | (have H2_ := (Option.bind_some _ _).symm.trans H; rw [hy525]; with_reducible exact H2_) | (have H2_ := (Option.bind_some _ _).symm.trans H; with_reducible exact H2_) | with_reducible exact H | (rw [hy525]; exact H) | exact H
           have Ny525 := Aside0.mk hy525
           clear hy525
           have H' := Aside0.mk H
           clear H
           have p522 : 0 ≤ (x17_1 : Int) := of_decide_eq_true (by first | (with_reducible assumption) | assumption)
           have q522 : x17_1 < (l1.length : Int) := of_decide_eq_true (by first | (with_reducible assumption) | assumption)
           obtain ⟨ad522, A522_0, c522_0, e522, hx522_0, hl522_0, hi522_0⟩ := at_L3 HR1.out x17_1 p522 q522
           cases e522
           replace hx522_0 := (HB.out.cell (World.block_lt_of_cell? w _ hx522_0)).trans hx522_0
           have HR522_0 := Aside0.mk hi522_0
           have HC522_0 := Aside0.mk hl522_0
           clear hi522_0 hl522_0
           replace p522 := eq_true p522
           replace q522 := eq_true q522
           try go_wp2
           have n0_ := Aside0.mk (Kd.R_drew HO_5.out)
           have n1_ := Aside0.mk (blk_drew BK517.out)
           have n2_ := Aside0.mk (below_drew1 HB.out)
           clear HO_5
           clear BK517
           clear HB
           have HO_5 := n0_
           have BK517 := n1_
           have HB := n2_
           clear n0_ n1_ n2_
           have p523 : 0 ≤ (1 : Int) := (by omega)
           have q523 : 1 < ((rd_L3 l1 x17_1).length : Int) := of_decide_eq_true (by first | (with_reducible assumption) | assumption)
           obtain ⟨ad523, e523, hx523_0⟩ := Kd.at_int HR522_0.out 1 p523 q523
           have hw523_0 := hx523_0
           (try rw [show ((1 : Int)).toNat = 1 from rfl] at hw523_0)
           (try rw [show 1 * 1 = 1 from rfl] at hw523_0)
           (try simp only [Nat.reduceMul, Nat.reduceEqDiff, Go.Addr.add, ↓reduceIte] at hw523_0)
           cases e523
           (try simp only [show (1 : Int).toNat = 1 from rfl, Nat.reduceMul, Nat.reduceEqDiff, Go.Addr.add, ↓reduceIte] at hx523_0)
           have qi523 : (1 < (rd_L3 l1 x17_1).length) = True := eq_true (by omega)
           (try rw [show ((1 : Int)).toNat = 1 from rfl] at hx523_0)
           replace hx523_0 := (HB.out.cell (World.block_lt_of_cell? w _ hx523_0)).trans hx523_0
           replace p523 := eq_true p523
           replace q523 := eq_true q523
           refine start_ (n := 10) (S := fun w' => w'.cell? ⟨gb517, 0, none⟩ = some (.slice A0_0 l0_0.length c0_0) ∧ w'.cell? ⟨gb517, 1, none⟩ = some (.slice A0_1 l0_1.length c0_1) ∧ w'.cell? ⟨ad523.block, ad523.off + 1, none⟩ = some (.int .i64 (rd (rd_L3 l1 x17_1) 1))) (ds := [9]) #[false, false, false, false, false, false, false, false, false, false] (by kernel_rfl) rfl rfl ⟨(blk_cell BK517.out 0).trans rfl, (blk_cell BK517.out 1).trans rfl, ((HB.out.cell (World.block_lt_of_cell? w _ hw523_0)).trans hw523_0)⟩ (fun hHeld => ?_); refine with_tabW bfs_Parents.tab7 bfs_Parents.bits7 (fun HT_ HW_ => ?_)
           generalize wr.drew = w19 at HO_5 BK517 HB hx523_0 hHeld ⊢
           refine pure_ (i := 0) (N := some 22) (v := ?_) (a' := ?_) #[true, false, false, false, false, false, false, false, false, false] rfl rfl (any_of HT_.out (by kernel_rfl)) (fun _ _ _ h => h) (Or.inl ⟨by rfl, ?_⟩) ?_ ?_
           rotate_left
           ·
            intro w'
            go_simp
            with_reducible rfl
           rotate_left
           ·
            simp only [Act.put, List.setIfInBounds_toArray, List.set_cons_zero, List.set_cons_succ, i64_w, i32_w]
            rfl
           refine pure_ (i := 1) (N := some 23) (v := ?_) (a' := ?_) #[true, true, false, false, false, false, false, false, false, false] rfl rfl (any_of HT_.out (by kernel_rfl)) (fun _ _ _ h => h) (Or.inl ⟨by rfl, ?_⟩) ?_ ?_
           rotate_left
           ·
            intro w'
            go_simp
            with_reducible rfl
           rotate_left
           ·
            simp only [Act.put, List.setIfInBounds_toArray, List.set_cons_zero, List.set_cons_succ, i64_w, i32_w]
            rfl
           refine pure_ (i := 3) (N := some 25) (v := ?_) (a' := ?_) #[true, true, false, true, false, false, false, false, false, false] rfl rfl (any_of HT_.out (by kernel_rfl)) (fun _ _ _ h => h) (Or.inl ⟨by rfl, ?_⟩) ?_ ?_
           rotate_left
           ·
            intro w'
            go_simp
            with_reducible rfl
           rotate_left
           ·
            simp only [Act.put, List.setIfInBounds_toArray, List.set_cons_zero, List.set_cons_succ, i64_w, i32_w]
            rfl
           refine pure_ (i := 4) (N := some 26) (v := ?_) (a' := ?_) #[true, true, false, true, true, false, false, false, false, false] rfl rfl (any_of HT_.out (by kernel_rfl)) (fun _ _ _ h => h) (Or.inl ⟨by rfl, ?_⟩) ?_ ?_
           rotate_left
           ·
            intro w'
            go_simp
            with_reducible rfl
           rotate_left
           ·
            simp only [Act.put, List.setIfInBounds_toArray, List.set_cons_zero, List.set_cons_succ, i64_w, i32_w]
            rfl
           refine pure_ (i := 5) (N := some 27) (v := ?_) (a' := ?_) #[true, true, false, true, true, true, false, false, false, false] rfl rfl (any_of HT_.out (by kernel_rfl)) (fun _ _ _ h => h) (Or.inl ⟨by rfl, ?_⟩) ?_ ?_
           rotate_left
           ·
            intro w'
            go_simp
            with_reducible rfl
           rotate_left
           ·
            simp only [Act.put, List.setIfInBounds_toArray, List.set_cons_zero, List.set_cons_succ, i64_w, i32_w]
            rfl
           refine take_ (i := 2) (N := some 24) (v := ?_) (a' := ?_) #[true, true, true, true, true, true, false, false, false, false] rfl rfl (take_ofW HT_.out HW_.out (by kernel_rfl)) (fun _ _ _ h => h) (Or.inl ⟨by rfl, ?_⟩) hHeld ?_ ?_
           rotate_left
           ·
            rintro w' ⟨s0, s1, s2⟩
            go_simp
            with_reducible rfl
           rotate_left
           ·
            simp only [Act.put, List.setIfInBounds_toArray, List.set_cons_zero, List.set_cons_succ, i64_w, i32_w]
            rfl
           refine take_ (i := 6) (N := some 28) (v := ?_) (a' := ?_) #[true, true, true, true, true, true, true, false, false, false] rfl rfl (take_ofW HT_.out HW_.out (by kernel_rfl)) (fun _ _ _ h => h) (Or.inl ⟨by rfl, ?_⟩) hHeld ?_ ?_
           rotate_left
           ·
            rintro w' ⟨s0, s1, s2⟩
            go_simp
            with_reducible rfl
           rotate_left
           ·
            simp only [Act.put, List.setIfInBounds_toArray, List.set_cons_zero, List.set_cons_succ, i64_w, i32_w]
            rfl
           refine one_ (i := 7) (N := some 29) #[true, true, true, true, true, true, true, true, false, false] rfl rfl (one_of HT_.out (by kernel_rfl)) (by decide) (fun K hK => ?_)
           refine goes_ Try.func96 (by kernel_rfl) rfl #[.agg #[.slice A0_0 l0_0.length c0_0, .slice A0_1 l0_1.length c0_1], .int .i64 x17_1, .int .i64 (rd (rd_L3 l1 x17_1) 1)] (by rfl) rfl rfl (by (try simp only [List.map_toArray, List.map_cons, List.map_nil]); first | done | rfl | (simp only [List.length_drop, List.length_take]; rfl)) ?_
           with_reducible refine (shape_At.calls _ _ l0_0 _ _ l0_1 x17_1 (rd (rd_L3 l1 x17_1) 1) t524 _ ?side1 ?side2 ?side3 ?side4 A16.out).mono ?_
           (case side1 => repeat (first | exact (Kd.C_below HR0_0.out HB.out) | (with_reducible refine Kd.C_alloc ?_ _) | (with_reducible refine Kd.C_drewN ?_ _) | (with_reducible refine Kd.C_drew ?_)))
           (case side2 => exact HC0_0.out)
           (case side3 => repeat (first | exact (Kd.C_below HR0_1.out HB.out) | (with_reducible refine Kd.C_alloc ?_ _) | (with_reducible refine Kd.C_drewN ?_ _) | (with_reducible refine Kd.C_drew ?_)))
           (case side4 => exact HC0_1.out)
           rintro e w20 ⟨rfl, hb⟩
           refine ⟨_, rfl, ?_⟩
           have n0_ := Aside0.mk (Kd.R_below (by (with_reducible repeat (first | apply Kd.R_alloc | apply Kd.R_drewN | apply Kd.R_drew)); exact HO_5.out) hb)
           have n1_ := Aside0.mk (blk_below (g := gb517) (o := .cells #[.slice A0_0 l0_0.length c0_0, .slice A0_1 l0_1.length c0_1] 27 (0, 0)) (by (with_reducible repeat (first | refine blk_drewN ?_ _ | refine blk_drew ?_ | refine blk_alloc ?_ _)); exact BK517.out) hb)
           have n2_ := Aside0.mk (below_step (by repeat (first | (with_reducible first | exact HB.out | apply below_alloc | apply pw_below_drewN | apply below_drew1 | refine below_set ?_ GE517.out) | exact HB.out)) hb)
           clear HO_5
           clear BK517
           clear HB
           have HO_5 := n0_
           have BK517 := n1_
           have HB := n2_
           clear n0_ n1_ n2_
           (try clear hb)
           (try clear hb2)
           (try clear hk)
           (try clear hi)
           have p18 : 0 ≤ (x17_1 : Int) := of_decide_eq_true (by first | (with_reducible assumption) | assumption)
           have q18 : (x17_1 : Int) < ((x5_1.length : Int) : Int) := of_decide_eq_true (by first | (with_reducible assumption) | assumption)
           obtain ⟨go18, co18, eo18, gb18, gl18, cl18, HG18⟩ := Kd.R_form HO_5.out (by omega)
           (first | cases eo18 | (injection eo18 with ea_ en_ ec_; (first | subst ea_ | (injection ea_ with ea_; subst ea_)); subst ec_; clear en_))
           have GB18 := Aside0.mk gb18
           have GG18 := Aside0.mk HG18
           clear gb18 gl18 HG18
           obtain ⟨hx18_0, hf18_0⟩ := Kd.R_celln 0 HO_5.out (x17_1 : Int) p18 q18
           replace p18 := eq_true p18
           replace q18 := eq_true q18
           have HP21 := Kd.R_putn HO_5.out (x17_1 : Int) t524
           rw [← Ny525.out] at HP21
           have HQ21 := Aside0.mk HP21
           clear HP21
           refine hK.out _ _ ⟨(blk_cell BK517.out 0).trans rfl, (blk_cell BK517.out 1).trans rfl, ((HB.out.cell (World.block_lt_of_cell? w _ hw523_0)).trans hw523_0)⟩ (fun hHeld => ?_)
           clear hK K
           refine norm_ (a' := ?_) ?_ ?_
           rotate_left
           ·
            show Act.put _ (some 29) _ = _
            simp only [Act.put, List.setIfInBounds_toArray, List.set_cons_zero, List.set_cons_succ, i64_w, i32_w]
            rfl
           refine pure_ (i := 8) (N := some 30) (v := ?_) (a' := ?_) #[true, true, true, true, true, true, true, true, true, false] rfl rfl (any_of HT_.out (by kernel_rfl)) (fun _ _ _ h => h) (Or.inl ⟨by rfl, ?_⟩) ?_ ?_
           rotate_left
           ·
            intro w'
            go_simp
            with_reducible rfl
           rotate_left
           ·
            simp only [Act.put, List.setIfInBounds_toArray, List.set_cons_zero, List.set_cons_succ, i64_w, i32_w]
            rfl
           refine last_ (i := 9) (N := none) #[true, true, true, true, true, true, true, true, true, true] rfl rfl (one_of HT_.out (by kernel_rfl)) (by decide) (fun K hK => ?_)
           refine skip_ (w1 := ?_) (by rfl) rfl ?_ ?_
           rotate_left
           ·
            go_simp
            rfl
           refine hK.out _ _ ?_
           clear hK K
           refine done_ (done_of HT_.out (by kernel_rfl)) ?_
           try go_wp2
           go_roundg k1
           case measure => have := HK1.out; omega
           case rel => exact ⟨(y525), (wrap64 (x17_1 + 1)), (by first | rfl | (simp; done) | (simp [*]; done)), H', ⟨by have := HK1.out; omega⟩, ⟨by (with_reducible repeat (first | apply Kd.R_alloc | apply Kd.R_drewN | apply Kd.R_drew)); exact HQ21.out⟩, ⟨by (with_reducible repeat (first | refine blk_drewN ?_ _ | refine blk_drew ?_ | refine blk_alloc ?_ _)); refine blk_far ?_ (by have h_ := Kd.R_ne HO_5.out BK517.out (by decide); intro e_; exact h_ (by rw [e_]; rfl)) _; (with_reducible repeat (first | refine blk_drewN ?_ _ | refine blk_drew ?_ | refine blk_alloc ?_ _)); exact BK517.out⟩, ⟨by repeat (first | (with_reducible first | exact HB.out | apply below_alloc | apply pw_below_drewN | apply below_drew1 | refine below_set ?_ GB18.out | refine below_set ?_ GE517.out) | exact HB.out)⟩⟩
          ·
           rw [if_neg c17] at H
           exact absurd H (by simp)
         ·
          rw [if_neg c15] at H
          exact absurd H (by simp)
        ·
         rw [if_neg c14] at H
         exact absurd H (by simp)
       ·
        rw [if_neg c13] at H
        exact absurd H (by simp)
      ·
       rw [if_neg c12] at H
       have c12b0 : decide (x17_1 < (l1.length : Int)) = false := decide_eq_false c12
       clear c12
       obtain rfl := Option.some.inj H
       go_wp2
       go_ret
       exact ⟨_, by first | rfl | (simp [errW_none, errW_some] <;> rfl) | (simp [*, errW_none, errW_some] <;> rfl), by (with_reducible repeat (first | apply Kd.R_alloc | apply Kd.R_drewN | apply Kd.R_drew)); exact HO_5.out, by repeat (first | (with_reducible first | exact HB.out | apply below_alloc | apply pw_below_drewN | apply below_drew1 | refine below_set ?_ GE517.out) | exact HB.out)⟩
   ·
    rw [if_neg c6] at H
    exact absurd H (by simp)
  ·
   rw [if_neg c5] at H
   exact absurd H (by simp)
 ·
  replace c4 := Bool.eq_false_iff.mpr c4
  subst c4
  have H1 : (some ([] : List Int)) = some r := by rw [if_neg (show ¬ (false = true) by decide)] at H; exact H
  clear H
  have H := H1
  clear H1
  obtain rfl := Option.some.inj H
  go_enter Try.func45, Try.ntmps45
  go_wp2_with (first | ((with_reducible refine gate_dst (N := 2) rfl ?_); refine box_event ?hg (N := 2) ?hd (cs := #[.slice A0_0 l0_0.length c0_0, .slice A0_1 l0_1.length c0_1]) (t := 27) ?hr ?_; (case hd => rfl); (case hg => rfl); (case hr => first | (go_simp; done) | (go_simp; rfl)); intro gb517 hg w22 hbox hb; have n0_ := Aside0.mk (below_step (by repeat (first | (with_reducible first | exact HB.out | apply below_alloc | apply pw_below_drewN | apply below_drew1) | exact HB.out)) hb); have n1_ := Aside0.mk (hbox); have n2_ := Aside0.mk ((by rw [hg]; exact (below_size (by repeat (first | (with_reducible first | exact HB.out | apply below_alloc | apply pw_below_drewN | apply below_drew1) | exact HB.out))) : w.heap.size ≤ gb517)); have n3_ := Aside0.mk ((by rw [hg]; exact (below_size (by repeat (first | (with_reducible first | exact HB.out | apply below_alloc | apply pw_below_drewN | apply below_drew1) | exact HB.out))) : w.heap.size ≤ gb517)); clear HB; have HB := n0_; have BK517 := n1_; have GW517 := n2_; have GE517 := n3_; clear n0_ n1_ n2_ n3_; clear hb hbox hg; have hcz23_0 : w22.cell? ⟨gb517, 0, none⟩ = some (.slice A0_0 l0_0.length c0_0) := (blk_cell BK517.out 0).trans rfl; have hcz23_1 : w22.cell? ⟨gb517, 1, none⟩ = some (.slice A0_1 l0_1.length c0_1) := (blk_cell BK517.out 1).trans rfl; have hfz23_0 := blk_frozen BK517.out 0; have hfz23_1 := blk_frozen BK517.out 1) | ((with_reducible refine gate_callee (f := 89) rfl ?_); refine goesL_ (some 10) rfl rfl Try.func89 (by kernel_rfl) rfl #[.agg #[.slice A0_0 l0_0.length c0_0, .slice A0_1 l0_1.length c0_1], .slice A1 l1.length c1] rfl (by (try simp only [List.map_toArray, List.map_cons, List.map_nil]); first | done | rfl | (simp only [List.length_drop, List.length_take]; rfl)) ?_; (with_reducible refine (bfs_configuration.calls k _ _ l0_0 _ _ l0_1 _ _ l1 false _ ?side1 ?side2 ?side3 ?side4 ?side5 ?side6 A3.out).mono ?_); (case side1 => repeat (first | exact (Kd.C_below HR0_0.out HB.out) | (with_reducible refine Kd.C_alloc ?_ _) | (with_reducible refine Kd.C_drewN ?_ _) | (with_reducible refine Kd.C_drew ?_))); (case side2 => exact HC0_0.out); (case side3 => repeat (first | exact (Kd.C_below HR0_1.out HB.out) | (with_reducible refine Kd.C_alloc ?_ _) | (with_reducible refine Kd.C_drewN ?_ _) | (with_reducible refine Kd.C_drew ?_))); (case side4 => exact HC0_1.out); (case side5 => repeat (first | exact (Kd.C_below HR1.out HB.out) | (with_reducible refine Kd.C_alloc ?_ _) | (with_reducible refine Kd.C_drewN ?_ _) | (with_reducible refine Kd.C_drew ?_))); (case side6 => exact HC1.out); rintro e w24 ⟨rfl, hb⟩; refine ⟨_, rfl, ?_⟩; have n0_ := Aside0.mk (blk_below (g := gb517) (o := .cells #[.slice A0_0 l0_0.length c0_0, .slice A0_1 l0_1.length c0_1] 27 (0, 0)) (by (with_reducible repeat (first | refine blk_drewN ?_ _ | refine blk_drew ?_ | refine blk_alloc ?_ _)); exact BK517.out) hb); have n1_ := Aside0.mk (below_step (by repeat (first | (with_reducible first | exact HB.out | apply below_alloc | apply pw_below_drewN | apply below_drew1 | refine below_set ?_ GE517.out) | exact HB.out)) hb); clear BK517; clear HB; have BK517 := n0_; have HB := n1_; clear n0_ n1_; (try clear hb); (try clear hb2); (try clear hk); (try clear hi)))
  go_ret
  exact ⟨_, by first | rfl | (simp [errW_none, errW_some] <;> rfl) | (simp [*, errW_none, errW_some] <;> rfl), by first | exact Kd.R_nil _ _ _ _ _ | exact Kd.N_nil _ _ _ _ _ | exact Kd.V_nil _ _ _ _ _ | exact Kd.Q_nil _ _ _ _ _ | exact Kd.S_nil _ _ _ _ _, by repeat (first | (with_reducible first | exact HB.out | apply below_alloc | apply pw_below_drewN | apply below_drew1 | refine below_set ?_ GE517.out) | exact HB.out)⟩
end Go.Proofs.YthapikakneikbaaG
/-
  A graph that the world's functions make, in the printed texts' words: its rows are the call's own.
-/
namespace Go.Proofs.YthapikakneikbaaG
open Go.RowKit Go.Proofs.YthapikakneikbaaW.PrintWords
theorem reps_ints {w : World} {base : Nat} {ok : Nat → Prop} (xs : List Int) : Reps ((Kd.int .i64).M w base ok) 1 xs (Go.Proofs.Ythapikakneikbaa.icells xs) := by
  refine ⟨by simp [Go.Proofs.Ythapikakneikbaa.icells], fun j p hj => ?_⟩
  have hl := (List.getElem?_eq_some_iff.1 hj).1
  show _ = [Value.int .i64 p]
  rw [Nat.mul_one, List.take_one, List.head?_drop]
  simp [Go.Proofs.Ythapikakneikbaa.icells, hj]
theorem own_ints {w : World} {B n : Nat} {v : Value} {xs : List Int} (hn : xs.length = n) (h : w.ownsRow B 3 1 v n (Go.Proofs.Ythapikakneikbaa.icells xs)) : Kd.R (Kd.int .i64) 3 w B (fun _ => True) v xs :=
  ⟨fun _ _ => trivial, Go.Proofs.Ythapikakneikbaa.icells xs, by rw [hn]; exact h, reps_ints xs⟩
def ofL (l : Go.Proofs.Ythapikakneikbaa.Link) : S60 := ⟨l.to_, l.wt⟩
theorem reps_links {w : World} {base : Nat} {ok : Nat → Prop} (ps : List Go.Proofs.Ythapikakneikbaa.Link) : Reps (k60.M w base ok) 2 (ps.map ofL) (Go.Proofs.Ythapikakneikbaa.lcells ps) := by
  refine ⟨by rw [Go.Proofs.Ythapikakneikbaa.lcells_length, List.length_map], fun j p hj => ?_⟩
  rw [List.getElem?_map] at hj
  obtain ⟨l, hl, rfl⟩ := Option.map_eq_some_iff.1 hj
  obtain ⟨g0, g1⟩ := Go.Proofs.Ythapikakneikbaa.lcells_get hl
  have : ((Go.Proofs.Ythapikakneikbaa.lcells ps).drop (j * 2)).take 2 = [.int .i64 l.to_, .int .i64 l.wt] := by
    apply List.ext_getElem?
    intro i
    rw [List.getElem?_take]
    match i with
    | 0 => simpa using g0
    | 1 => simpa using g1
    | i + 2 =>
      have : ¬ i + 2 < 2 := by omega
      simp [this]
  rw [this]
  exact k60_mkM w base ok (ofL l)
/-- The rows of links, and the row that leads to them. -/
theorem own_ports {w : World} {B P n : Nat} {vs : List Value} {rows : List (List Go.Proofs.Ythapikakneikbaa.Link)} (hn : rows.length = n) (hm : n ≤ 1000) (h : Go.Proofs.Ythapikakneikbaa.PortsAt w B P vs rows) :
    Kd.S (Kd.slice 60 k60) 52 w B (fun _ => True) (.slice (some ⟨P, 0, none⟩) n n) (rows.map (List.map ofL)) := by
  have hl : vs.length = n := h.rows.len.trans hn
  open Classical in
  refine ⟨fun k => if hk : ∃ (u : Nat) (v : Value), vs[u]? = some v ∧ v.ownBlock = some k then Classical.choose hk else 0, fun _ _ => trivial, vs, ?_, ?_⟩
  · rw [List.length_zipIdx, List.length_map, hn]
    refine ⟨by show vs.length = n * 1; omega, .inr ⟨P, n, vs.toArray, rfl, h.hP, h.blk, Nat.le_refl _, by unfold maxLen; omega, ?_, ?_⟩⟩
    · show vs.toArray.size = n * 1
      simp [hl]
    · show List.take (n * 1) vs.toArray.toList = vs
      rw [Nat.mul_one]
      exact List.take_of_length_le (by simp [hl])
  · refine ⟨by rw [List.length_zipIdx, List.length_map, h.rows.len]; exact (Nat.mul_one _).symm, fun j p hj => ?_⟩
    rw [List.getElem?_zipIdx] at hj
    obtain ⟨r, hr, rfl⟩ := Option.map_eq_some_iff.1 hj
    rw [List.getElem?_map] at hr
    obtain ⟨ps, hps, rfl⟩ := Option.map_eq_some_iff.1 hr
    have hjl := (List.getElem?_eq_some_iff.1 hps).1
    have hv := List.getElem?_eq_getElem (l := vs) (i := j) (by omega)
    generalize vs[j]'(by omega) = v at hv
    have ho := h.rows.own j v ps hv hps
    have hfar := h.far v (List.mem_of_getElem? hv)
    have e1 : (vs.drop (j * (Kd.tag (fun k => if hk : ∃ (u : Nat) (v : Value), vs[u]? = some v ∧ v.ownBlock = some k then Classical.choose hk else 0) (Kd.slice 60 k60)).sz)).take (Kd.tag (fun k => if hk : ∃ (u : Nat) (v : Value), vs[u]? = some v ∧ v.ownBlock = some k then Classical.choose hk else 0) (Kd.slice 60 k60)).sz = [v] := by
      show List.take 1 (List.drop (j * 1) vs) = [v]
      rw [Nat.mul_one, List.take_one, List.head?_drop, hv]
      rfl
    rw [e1]
    refine ⟨v, rfl, fun k hk => ⟨⟨trivial, ?_⟩, ?_⟩, Go.Proofs.Ythapikakneikbaa.lcells ps, by rw [List.length_map]; exact ho, reps_links ps⟩
    · intro e
      rw [hk] at hfar
      exact hfar (e.trans rfl)
    · have hex : ∃ (u : Nat) (v : Value), vs[u]? = some v ∧ v.ownBlock = some k := ⟨j, v, hv, hk⟩
      show (if hk : ∃ (u : Nat) (v : Value), vs[u]? = some v ∧ v.ownBlock = some k then Classical.choose hk else 0) = 0 + j
      rw [dif_pos hex, Nat.zero_add]
      obtain ⟨v', hv', hk'⟩ := Classical.choose_spec hex
      by_cases e : Classical.choose hex = j
      · exact e
      · rcases h.rows.apart _ _ _ _ hv' hv e with h1 | h1
        · rw [hk'] at h1; cases h1
        · exact absurd (hk'.trans hk.symm) h1
end Go.Proofs.YthapikakneikbaaG
namespace Go.Proofs.YthapikakneikbaaG
open Go.RowKit Go.Proofs.YthapikakneikbaaW.PrintWords Go.Proofs.YthapikakneikbaaW.PrintLast Go.Proofs.YthapikakneikbaaW.PrintMore
attribute [local go_sem] max2_int min2_int max_two min_two max_three min_three max_four min_four   -- for this text's walks alone
set_option linter.unusedVariables false
set_option linter.unusedSimpArgs false
/-! ### selfstabworld_Net_Tree: function 77 -/
def selfstabworld_Net_Tree.f (a0_0 : Int) (l0_1 : List Int) (l0_2 : List Int) (l0_3 : List Int) (a0_4 : Bool) (a0_5 : Bool) (a1 : Int) : Option (List Int × (List (List (S60)))) :=
 if 1 ≤ a1 ∧ a1 ≤ 24 then some ((Go.Proofs.Ythapikakneikbaa.Net.treeG ⟨a0_0, l0_1, l0_2, l0_3, a0_4, a0_5⟩ a1).ids, (Go.Proofs.Ythapikakneikbaa.Net.treeG ⟨a0_0, l0_1, l0_2, l0_3, a0_4, a0_5⟩ a1).ports.map (List.map ofL)) else none
theorem selfstabworld_Net_Tree.calls (a0_0 : Int) (A0_1 : Option Addr) (c0_1 : Nat) (l0_1 : List Int) (A0_2 : Option Addr) (c0_2 : Nat) (l0_2 : List Int) (A0_3 : Option Addr) (c0_3 : Nat) (l0_3 : List Int) (a0_4 : Bool) (a0_5 : Bool) (a1 : Int) (r1 : List Int) (r2 : List (List (S60))) (w : World) (hr0_1 : Kd.C (Kd.int .i64) w A0_1 l0_1.length l0_1) (hc0_1 : l0_1.length ≤ c0_1) (hr0_2 : Kd.C (Kd.int .i64) w A0_2 l0_2.length l0_2) (hc0_2 : l0_2.length ≤ c0_2) (hr0_3 : Kd.C (Kd.int .i64) w A0_3 l0_3.length l0_3) (hc0_3 : l0_3.length ≤ c0_3) (h : selfstabworld_Net_Tree.f a0_0 l0_1 l0_2 l0_3 a0_4 a0_5 a1 = some (r1, r2)) :
  Calls Try.prog 77 #[.agg #[.int .i64 a0_0, .slice A0_1 l0_1.length c0_1, .slice A0_2 l0_2.length c0_2, .slice A0_3 l0_3.length c0_3, .bool a0_4, .bool a0_5], .int .i64 a1] w fun e w' => ∃ v0_ v1_ : Value, e = .returned (.agg #[v0_, v1_]) ∧ Kd.R (Kd.int .i64) 3 w' w.heap.size (fun _ => True) v0_ r1 ∧ Kd.S (Kd.slice 60 k60) 52 w' w.heap.size (fun _ => True) v1_ r2 ∧ Below w.heap.size w w' := by
 unfold selfstabworld_Net_Tree.f at h
 by_cases hm : 1 ≤ a1 ∧ a1 ≤ 24
 ·
  rw [if_pos hm] at h
  injection h with h
  injection h with e1 e2
  have hb := Go.Proofs.Ythapikakneikbaa.Net.n_bd ⟨a0_0, l0_1, l0_2, l0_3, a0_4, a0_5⟩ hm.1
  refine (Go.Proofs.Ythapikakneikbaa.tree_n w ⟨a0_0, l0_1, l0_2, l0_3, a0_4, a0_5⟩ A0_1 A0_2 A0_3 c0_1 c0_2 c0_3 ⟨C_ints hr0_1, C_ints hr0_2, C_ints hr0_3⟩ a1 hm.1 hm.2).mono ?_
  rintro e w' ⟨A, c, P, vs, rfl, ⟨h1, h2, h3⟩, ho, hp, hbl⟩
  subst e1 e2
  exact ⟨_, _, rfl, own_ints h2 ho, own_ports h3 (by omega) hp, hbl⟩
 ·
  rw [if_neg hm] at h
  cases h
end Go.Proofs.YthapikakneikbaaG
namespace Go.Proofs.YthapikakneikbaaG
open Go.RowKit Go.Proofs.YthapikakneikbaaW.PrintWords Go.Proofs.YthapikakneikbaaW.PrintLast Go.Proofs.YthapikakneikbaaW.PrintMore
attribute [local go_sem] max2_int min2_int max_two min_two max_three min_three max_four min_four   -- for this text's walks alone
set_option linter.unusedVariables false
set_option linter.unusedSimpArgs false
/-! ### selfstablaw23_known: function 37 -/
def selfstablaw23_known.f (k : Nat)  : Option (Bool) := (selfstabworld_Net_Tree.f 3 (([0, 1] : List Int)) ([] : List Int) ([] : List Int) false false 3).bind fun bt529 => ((some (([(([0, (-1)] : List Int)), (([1, 0] : List Int)), (([2, 0] : List Int))] : List (List Int)) : List (List Int))).bind fun y545 => ((bfs_Parents.f k bt529.1 bt529.2 y545).bind fun t548 => ((bfs_Legit.f k bt529.1 bt529.2 y545).bind fun t551 => (if t551 = true then ((bfs_Legit.f k bt529.1 bt529.2 (([(([0, (-1)] : List Int)), (([1, 1] : List Int)), (([2, 0] : List Int))] : List (List Int)))).bind fun t564 => (if t564 = true then (none) else ((bfs_Claim.f k bt529.1 bt529.2).bind fun bt565 => (if bt565.2.2.2.1 = 3 then ((selfstablaw23_sameInts.f k t548 (([(-1), 0, 1] : List Int))).bind fun t573 => (some t573)) else (none))))) else (none)))))
theorem selfstablaw23_known.mono : ∀ k, LeO (selfstablaw23_known.f k ) (selfstablaw23_known.f (k + 1) ) := by
 intro  k
 unfold selfstablaw23_known.f
 repeat' first
   | (with_reducible exact bfs_Claim.mono _ _ _)
   | (with_reducible exact bfs_Legit.mono _ _ _ _)
   | (with_reducible exact bfs_Parents.mono _ _ _ _)
   | (with_reducible exact selfstablaw23_sameInts.mono _ _ _)
   | (with_reducible exact LeO.refl _)
   | (with_reducible exact LeO.none _)
   | (with_reducible refine LeO.ite ?_ ?_)
   | (with_reducible refine LeO.bind ?_ (fun _ => ?_))
   | exact bfs_Claim.mono _ _ _
   | exact bfs_Legit.mono _ _ _ _
   | exact bfs_Parents.mono _ _ _ _
   | exact selfstablaw23_sameInts.mono _ _ _
   | exact LeO.none _
   | refine LeO.ite ?_ ?_
   | refine LeO.bind ?_ (fun _ => ?_)
set_option maxHeartbeats 8000000 in
set_option maxRecDepth 100000 in
theorem selfstablaw23_known.calls (k : Nat)  (r : Bool) (w : World) (h : selfstablaw23_known.f k  = some r) :
  Calls Try.prog 37 #[] w fun e w' => e = .returned (.bool r) ∧ Below w.heap.size w w' := by
 have hu24 := Try.underlying24
 have hu27 := Try.underlying27
 have hu44 := Try.underlying44
 have hfd44_3 : ∀ (x0 x1 x2 x3 x4 : Value) (W : World), (Instr.field 44 (.agg #[x0, x1, x2, x3, x4]) 3).run Try.prog W = .ok (x3) W := by intros; rfl
 have HB := Aside0.mk (Below.refl w.heap.size w)
 have H : ((selfstabworld_Net_Tree.f 3 (([0, 1] : List Int)) ([] : List Int) ([] : List Int) false false 3).bind fun bt529 => ((some (([(([0, (-1)] : List Int)), (([1, 0] : List Int)), (([2, 0] : List Int))] : List (List Int)) : List (List Int))).bind fun y545 => ((bfs_Parents.f k bt529.1 bt529.2 y545).bind fun t548 => ((bfs_Legit.f k bt529.1 bt529.2 y545).bind fun t551 => (if t551 = true then ((bfs_Legit.f k bt529.1 bt529.2 (([(([0, (-1)] : List Int)), (([1, 1] : List Int)), (([2, 0] : List Int))] : List (List Int)))).bind fun t564 => (if t564 = true then (none) else ((bfs_Claim.f k bt529.1 bt529.2).bind fun bt565 => (if bt565.2.2.2.1 = 3 then ((selfstablaw23_sameInts.f k t548 (([(-1), 0, 1] : List Int))).bind fun t573 => (some t573)) else (none))))) else (none)))))) = some r := h
 clear h
 obtain ⟨y526, hy526⟩ : ∃ y_ : List Int, y_ = (([0, 1] : List Int)) := ⟨_, rfl⟩
 replace H : ((selfstabworld_Net_Tree.f 3 y526 ([] : List Int) ([] : List Int) false false 3).bind fun bt529 => ((some (([(([0, (-1)] : List Int)), (([1, 0] : List Int)), (([2, 0] : List Int))] : List (List Int)) : List (List Int))).bind fun y545 => ((bfs_Parents.f k bt529.1 bt529.2 y545).bind fun t548 => ((bfs_Legit.f k bt529.1 bt529.2 y545).bind fun t551 => (if t551 = true then ((bfs_Legit.f k bt529.1 bt529.2 (([(([0, (-1)] : List Int)), (([1, 1] : List Int)), (([2, 0] : List Int))] : List (List Int)))).bind fun t564 => (if t564 = true then (none) else ((bfs_Claim.f k bt529.1 bt529.2).bind fun bt565 => (if bt565.2.2.2.1 = 3 then ((selfstablaw23_sameInts.f k t548 (([(-1), 0, 1] : List Int))).bind fun t573 => (some t573)) else (none))))) else (none)))))) = some r := by first | (rw [hy526]; with_reducible exact H) | (have H2_ := (Option.bind_some _ _).symm.trans H; rw [hy526]; with_reducible exact H2_) | (have H2_ := (Option.bind_some _ _).symm.trans H; with_reducible exact H2_) | with_reducible exact H | (rw [hy526]; exact H) | exact H
 have Ny526 := Aside0.mk hy526
 clear hy526
 replace H := Option.bind_eq_some_iff.mp H
 obtain ⟨⟨t529, t532⟩, A10, H⟩ := H
 replace H : ((some (([(([0, (-1)] : List Int)), (([1, 0] : List Int)), (([2, 0] : List Int))] : List (List Int)) : List (List Int))).bind fun y545 => ((bfs_Parents.f k t529 t532 y545).bind fun t548 => ((bfs_Legit.f k t529 t532 y545).bind fun t551 => (if t551 = true then ((bfs_Legit.f k t529 t532 (([(([0, (-1)] : List Int)), (([1, 1] : List Int)), (([2, 0] : List Int))] : List (List Int)))).bind fun t564 => (if t564 = true then (none) else ((bfs_Claim.f k t529 t532).bind fun bt565 => (if bt565.2.2.2.1 = 3 then ((selfstablaw23_sameInts.f k t548 (([(-1), 0, 1] : List Int))).bind fun t573 => (some t573)) else (none))))) else (none))))) = some r := H
 have A1 := Aside0.mk A10
 clear A10
 obtain ⟨y536, hy536⟩ : ∃ y_ : List Int, y_ = (([0, (-1)] : List Int)) := ⟨_, rfl⟩
 replace H : ((some (([y536, (([1, 0] : List Int)), (([2, 0] : List Int))] : List (List Int)) : List (List Int))).bind fun y545 => ((bfs_Parents.f k t529 t532 y545).bind fun t548 => ((bfs_Legit.f k t529 t532 y545).bind fun t551 => (if t551 = true then ((bfs_Legit.f k t529 t532 (([(([0, (-1)] : List Int)), (([1, 1] : List Int)), (([2, 0] : List Int))] : List (List Int)))).bind fun t564 => (if t564 = true then (none) else ((bfs_Claim.f k t529 t532).bind fun bt565 => (if bt565.2.2.2.1 = 3 then ((selfstablaw23_sameInts.f k t548 (([(-1), 0, 1] : List Int))).bind fun t573 => (some t573)) else (none))))) else (none))))) = some r := by first | (rw [hy536]; with_reducible exact H) | (have H2_ := (Option.bind_some _ _).symm.trans H; rw [hy536]; with_reducible exact H2_) | (have H2_ := (Option.bind_some _ _).symm.trans H; with_reducible exact H2_) | with_reducible exact H | (rw [hy536]; exact H) | exact H
 have Ny536 := Aside0.mk hy536
 clear hy536
 obtain ⟨y539, hy539⟩ : ∃ y_ : List Int, y_ = (([1, 0] : List Int)) := ⟨_, rfl⟩
 replace H : ((some (([y536, y539, (([2, 0] : List Int))] : List (List Int)) : List (List Int))).bind fun y545 => ((bfs_Parents.f k t529 t532 y545).bind fun t548 => ((bfs_Legit.f k t529 t532 y545).bind fun t551 => (if t551 = true then ((bfs_Legit.f k t529 t532 (([(([0, (-1)] : List Int)), (([1, 1] : List Int)), (([2, 0] : List Int))] : List (List Int)))).bind fun t564 => (if t564 = true then (none) else ((bfs_Claim.f k t529 t532).bind fun bt565 => (if bt565.2.2.2.1 = 3 then ((selfstablaw23_sameInts.f k t548 (([(-1), 0, 1] : List Int))).bind fun t573 => (some t573)) else (none))))) else (none))))) = some r := by first | (rw [hy539]; with_reducible exact H) | (have H2_ := (Option.bind_some _ _).symm.trans H; rw [hy539]; with_reducible exact H2_) | (have H2_ := (Option.bind_some _ _).symm.trans H; with_reducible exact H2_) | with_reducible exact H | (rw [hy539]; exact H) | exact H
 have Ny539 := Aside0.mk hy539
 clear hy539
 obtain ⟨y542, hy542⟩ : ∃ y_ : List Int, y_ = (([2, 0] : List Int)) := ⟨_, rfl⟩
 replace H : ((some (([y536, y539, y542] : List (List Int)) : List (List Int))).bind fun y545 => ((bfs_Parents.f k t529 t532 y545).bind fun t548 => ((bfs_Legit.f k t529 t532 y545).bind fun t551 => (if t551 = true then ((bfs_Legit.f k t529 t532 (([(([0, (-1)] : List Int)), (([1, 1] : List Int)), (([2, 0] : List Int))] : List (List Int)))).bind fun t564 => (if t564 = true then (none) else ((bfs_Claim.f k t529 t532).bind fun bt565 => (if bt565.2.2.2.1 = 3 then ((selfstablaw23_sameInts.f k t548 (([(-1), 0, 1] : List Int))).bind fun t573 => (some t573)) else (none))))) else (none))))) = some r := by first | (rw [hy542]; with_reducible exact H) | (have H2_ := (Option.bind_some _ _).symm.trans H; rw [hy542]; with_reducible exact H2_) | (have H2_ := (Option.bind_some _ _).symm.trans H; with_reducible exact H2_) | with_reducible exact H | (rw [hy542]; exact H) | exact H
 have Ny542 := Aside0.mk hy542
 clear hy542
 obtain ⟨y545, hy545⟩ : ∃ y_ : List (List Int), y_ = (([y536, y539, y542] : List (List Int))) := ⟨_, rfl⟩
 replace H : ((bfs_Parents.f k t529 t532 y545).bind fun t548 => ((bfs_Legit.f k t529 t532 y545).bind fun t551 => (if t551 = true then ((bfs_Legit.f k t529 t532 (([(([0, (-1)] : List Int)), (([1, 1] : List Int)), (([2, 0] : List Int))] : List (List Int)))).bind fun t564 => (if t564 = true then (none) else ((bfs_Claim.f k t529 t532).bind fun bt565 => (if bt565.2.2.2.1 = 3 then ((selfstablaw23_sameInts.f k t548 (([(-1), 0, 1] : List Int))).bind fun t573 => (some t573)) else (none))))) else (none)))) = some r := by first | (rw [hy545]; with_reducible exact H) | (have H2_ := (Option.bind_some _ _).symm.trans H; rw [hy545]; with_reducible exact H2_) | (have H2_ := (Option.bind_some _ _).symm.trans H; with_reducible exact H2_) | with_reducible exact H | (rw [hy545]; exact H) | exact H
 have Ny545 := Aside0.mk hy545
 clear hy545
 replace H := Option.bind_eq_some_iff.mp H
 obtain ⟨t548, A20, H⟩ := H
 replace H : ((bfs_Legit.f k t529 t532 y545).bind fun t551 => (if t551 = true then ((bfs_Legit.f k t529 t532 (([(([0, (-1)] : List Int)), (([1, 1] : List Int)), (([2, 0] : List Int))] : List (List Int)))).bind fun t564 => (if t564 = true then (none) else ((bfs_Claim.f k t529 t532).bind fun bt565 => (if bt565.2.2.2.1 = 3 then ((selfstablaw23_sameInts.f k t548 (([(-1), 0, 1] : List Int))).bind fun t573 => (some t573)) else (none))))) else (none))) = some r := H
 have A2 := Aside0.mk A20
 clear A20
 replace H := Option.bind_eq_some_iff.mp H
 obtain ⟨t551, A30, H⟩ := H
 replace H : (if t551 = true then ((bfs_Legit.f k t529 t532 (([(([0, (-1)] : List Int)), (([1, 1] : List Int)), (([2, 0] : List Int))] : List (List Int)))).bind fun t564 => (if t564 = true then (none) else ((bfs_Claim.f k t529 t532).bind fun bt565 => (if bt565.2.2.2.1 = 3 then ((selfstablaw23_sameInts.f k t548 (([(-1), 0, 1] : List Int))).bind fun t573 => (some t573)) else (none))))) else (none)) = some r := H
 have A3 := Aside0.mk A30
 clear A30
 by_cases c4 : t551 = true
 ·
  subst c4
  have H1 : ((bfs_Legit.f k t529 t532 (([(([0, (-1)] : List Int)), (([1, 1] : List Int)), (([2, 0] : List Int))] : List (List Int)))).bind fun t564 => (if t564 = true then (none) else ((bfs_Claim.f k t529 t532).bind fun bt565 => (if bt565.2.2.2.1 = 3 then ((selfstablaw23_sameInts.f k t548 (([(-1), 0, 1] : List Int))).bind fun t573 => (some t573)) else (none))))) = some r := by rw [if_pos rfl] at H; exact H
  clear H
  have H := H1
  clear H1
  obtain ⟨y552, hy552⟩ : ∃ y_ : List Int, y_ = (([0, (-1)] : List Int)) := ⟨_, rfl⟩
  replace H : ((bfs_Legit.f k t529 t532 (([y552, (([1, 1] : List Int)), (([2, 0] : List Int))] : List (List Int)))).bind fun t564 => (if t564 = true then (none) else ((bfs_Claim.f k t529 t532).bind fun bt565 => (if bt565.2.2.2.1 = 3 then ((selfstablaw23_sameInts.f k t548 (([(-1), 0, 1] : List Int))).bind fun t573 => (some t573)) else (none))))) = some r := by first | (rw [hy552]; with_reducible exact H) | (have H2_ := (Option.bind_some _ _).symm.trans H; rw [hy552]; with_reducible exact H2_) | (have H2_ := (Option.bind_some _ _).symm.trans H; with_reducible exact H2_) | with_reducible exact H | (rw [hy552]; exact H) | exact H
  have Ny552 := Aside0.mk hy552
  clear hy552
  obtain ⟨y555, hy555⟩ : ∃ y_ : List Int, y_ = (([1, 1] : List Int)) := ⟨_, rfl⟩
  replace H : ((bfs_Legit.f k t529 t532 (([y552, y555, (([2, 0] : List Int))] : List (List Int)))).bind fun t564 => (if t564 = true then (none) else ((bfs_Claim.f k t529 t532).bind fun bt565 => (if bt565.2.2.2.1 = 3 then ((selfstablaw23_sameInts.f k t548 (([(-1), 0, 1] : List Int))).bind fun t573 => (some t573)) else (none))))) = some r := by first | (rw [hy555]; with_reducible exact H) | (have H2_ := (Option.bind_some _ _).symm.trans H; rw [hy555]; with_reducible exact H2_) | (have H2_ := (Option.bind_some _ _).symm.trans H; with_reducible exact H2_) | with_reducible exact H | (rw [hy555]; exact H) | exact H
  have Ny555 := Aside0.mk hy555
  clear hy555
  obtain ⟨y558, hy558⟩ : ∃ y_ : List Int, y_ = (([2, 0] : List Int)) := ⟨_, rfl⟩
  replace H : ((bfs_Legit.f k t529 t532 (([y552, y555, y558] : List (List Int)))).bind fun t564 => (if t564 = true then (none) else ((bfs_Claim.f k t529 t532).bind fun bt565 => (if bt565.2.2.2.1 = 3 then ((selfstablaw23_sameInts.f k t548 (([(-1), 0, 1] : List Int))).bind fun t573 => (some t573)) else (none))))) = some r := by first | (rw [hy558]; with_reducible exact H) | (have H2_ := (Option.bind_some _ _).symm.trans H; rw [hy558]; with_reducible exact H2_) | (have H2_ := (Option.bind_some _ _).symm.trans H; with_reducible exact H2_) | with_reducible exact H | (rw [hy558]; exact H) | exact H
  have Ny558 := Aside0.mk hy558
  clear hy558
  obtain ⟨y561, hy561⟩ : ∃ y_ : List (List Int), y_ = (([y552, y555, y558] : List (List Int))) := ⟨_, rfl⟩
  replace H : ((bfs_Legit.f k t529 t532 y561).bind fun t564 => (if t564 = true then (none) else ((bfs_Claim.f k t529 t532).bind fun bt565 => (if bt565.2.2.2.1 = 3 then ((selfstablaw23_sameInts.f k t548 (([(-1), 0, 1] : List Int))).bind fun t573 => (some t573)) else (none))))) = some r := by first | (rw [hy561]; with_reducible exact H) | (have H2_ := (Option.bind_some _ _).symm.trans H; rw [hy561]; with_reducible exact H2_) | (have H2_ := (Option.bind_some _ _).symm.trans H; with_reducible exact H2_) | with_reducible exact H | (rw [hy561]; exact H) | exact H
  have Ny561 := Aside0.mk hy561
  clear hy561
  replace H := Option.bind_eq_some_iff.mp H
  obtain ⟨t564, A50, H⟩ := H
  replace H : (if t564 = true then (none) else ((bfs_Claim.f k t529 t532).bind fun bt565 => (if bt565.2.2.2.1 = 3 then ((selfstablaw23_sameInts.f k t548 (([(-1), 0, 1] : List Int))).bind fun t573 => (some t573)) else (none)))) = some r := H
  have A5 := Aside0.mk A50
  clear A50
  by_cases c6 : t564 = true
  ·
   subst c6
   have H1 : (none) = some r := by rw [if_pos rfl] at H; exact H
   clear H
   have H := H1
   clear H1
   exact absurd H (by simp)
  ·
   replace c6 := Bool.eq_false_iff.mpr c6
   subst c6
   have H1 : ((bfs_Claim.f k t529 t532).bind fun bt565 => (if bt565.2.2.2.1 = 3 then ((selfstablaw23_sameInts.f k t548 (([(-1), 0, 1] : List Int))).bind fun t573 => (some t573)) else (none))) = some r := by rw [if_neg (show ¬ (false = true) by decide)] at H; exact H
   clear H
   have H := H1
   clear H1
   replace H := Option.bind_eq_some_iff.mp H
   obtain ⟨⟨t565, t566, t567, t568, t569⟩, A70, H⟩ := H
   replace H : (if t568 = 3 then ((selfstablaw23_sameInts.f k t548 (([(-1), 0, 1] : List Int))).bind fun t573 => (some t573)) else (none)) = some r := H
   have A7 := Aside0.mk A70
   clear A70
   by_cases c8 : t568 = 3
   ·
    rw [if_pos c8] at H
    have c8b0 : (t568 == 3) = true := beq_iff_eq.mpr c8
    have c8b1 : (t568 != 3) = false := bne_eq_false_iff_eq.mpr c8
    clear c8
    obtain ⟨y570, hy570⟩ : ∃ y_ : List Int, y_ = (([(-1), 0, 1] : List Int)) := ⟨_, rfl⟩
    replace H : ((selfstablaw23_sameInts.f k t548 y570).bind fun t573 => (some t573)) = some r := by first | (rw [hy570]; with_reducible exact H) | (have H2_ := (Option.bind_some _ _).symm.trans H; rw [hy570]; with_reducible exact H2_) | (have H2_ := (Option.bind_some _ _).symm.trans H; with_reducible exact H2_) | with_reducible exact H | (rw [hy570]; exact H) | exact H
    have Ny570 := Aside0.mk hy570
    clear hy570
    replace H := Option.bind_eq_some_iff.mp H
    obtain ⟨t573, A90, H⟩ := H
    replace H : (some t573) = some r := H
    have A9 := Aside0.mk A90
    clear A90
    obtain rfl := Option.some.inj H
    go_enter Try.func37, Try.ntmps37
    go_wp2_with (first | ((with_reducible refine gate_dst (N := 4) rfl ?_); (try (refine gate_guard (by rfl) ?_; dsimp only)); refine Kd.R_lit (Kd.int .i64) _ 3 ?hg (N := 4) ?hd (xs := ([0, 1] : List Int)) (inner := [.int .i64 0, .int .i64 1]) (ok := fun _ => True) (okp := fun _ => True) ?hr ?hp (fun _ hk => hk) trivial (Below.refl _ _) (Nat.le_refl _) (by simp) ?_; (case hd => rfl); (case hg => rfl); (case hr => first | (go_simp; done) | (go_simp; rfl)); (case hp => exact (Reps.one (show Kd.M (Kd.int .i64) _ _ _ 0 [.int .i64 0] from rfl) (Reps.one (show Kd.M (Kd.int .i64) _ _ _ 1 [.int .i64 1] from rfl) (Reps.none _ _)))); intro v527 w10 ho11 hb hg_ hnew_; clear hg_ hnew_; (first | rw [← Ny526.out] at ho11 | (simp only [Int.reduceToNat] at ho11; rw [← Ny526.out] at ho11)); have n0_ := Aside0.mk (Kd.R_lower ho11 (below_size (by repeat (first | (with_reducible first | exact HB.out | apply below_alloc | apply pw_below_drewN | apply below_drew1) | exact HB.out)))); have n1_ := Aside0.mk (below_step (by repeat (first | (with_reducible first | exact HB.out | apply below_alloc | apply pw_below_drewN | apply below_drew1) | exact HB.out)) hb); clear HB; have HO528 := n0_; have HB := n1_; clear n0_ n1_; clear hb ho11; obtain ⟨Ao12, co12, eo12⟩ := Kd.R_slice HO528.out; subst eo12) | ((with_reducible refine gate_callee (f := 77) rfl ?_); refine goesL_ (some 6) rfl rfl Try.func77 (by kernel_rfl) rfl #[.agg #[.int .i64 3, .slice Ao12 y526.length co12, .slice none 0 0, .slice none 0 0, .bool false, .bool false], .int .i64 3] rfl (by (try simp only [List.map_toArray, List.map_cons, List.map_nil]); first | done | rfl | (simp only [List.length_drop, List.length_take]; rfl)) ?_; (refine (selfstabworld_Net_Tree.calls 3 _ _ y526 _ _ ([] : List Int) _ _ ([] : List Int) false false 3 t529 t532 _ ?side1 ?side2 ?side3 ?side4 ?side5 ?side6 A1.out).mono ?_); (case side1 => repeat (first | exact (Kd.R_reads' HO528.out).2.2 | (with_reducible refine Kd.C_alloc ?_ _) | (with_reducible refine Kd.C_drewN ?_ _) | (with_reducible refine Kd.C_drew ?_))); (case side2 => exact (Kd.R_reads' HO528.out).2.1); (case side3 => exact Kd.C_nil _ _); (case side4 => exact Nat.le_refl _); (case side5 => exact Kd.C_nil _ _); (case side6 => exact Nat.le_refl _); rintro e w13 ⟨v530, v533, rfl, ho0, ho1, hb⟩; refine ⟨_, rfl, ?_⟩; have n0_ := Aside0.mk (Kd.R_elder' (by (with_reducible repeat (first | apply Kd.R_alloc | apply Kd.R_drewN | apply Kd.R_drew)); exact HO528.out) (Kd.R_base ho0) hb); have n1_ := Aside0.mk (Kd.R_lower (Kd.R_new' ho0 (Kd.R_lt (by (with_reducible repeat (first | apply Kd.R_alloc | apply Kd.R_drewN | apply Kd.R_drew)); exact HO528.out))) (below_size (by repeat (first | (with_reducible first | exact HB.out | apply below_alloc | apply pw_below_drewN | apply below_drew1) | exact HB.out)))); have n2_ := Aside0.mk (Kd.N_lower (Kd.N_mono (ok' := fun k_ => some k_ ≠ (v530 : Value).ownBlock ∧ some k_ ≠ (.slice Ao12 y526.length co12 : Value).ownBlock) (Kd.S_N (Kd.S_bound (Kd.S_apart' ho1 (Kd.R_typed ho0) (by decide)))) (fun k_ hk_ => ⟨hk_.1.2, (Kd.fresh' (Kd.R_lt (by (with_reducible repeat (first | apply Kd.R_alloc | apply Kd.R_drewN | apply Kd.R_drew)); exact HO528.out)) k_ hk_.2.1)⟩)) (below_size (by repeat (first | (with_reducible first | exact HB.out | apply below_alloc | apply pw_below_drewN | apply below_drew1) | exact HB.out)))); have n3_ := Aside0.mk (below_step (by repeat (first | (with_reducible first | exact HB.out | apply below_alloc | apply pw_below_drewN | apply below_drew1) | exact HB.out)) hb); clear HO528; clear HB; have HO528 := n0_; have HO531 := n1_; have HO534 := n2_; have HB := n3_; clear n0_ n1_ n2_ n3_; (try clear hb); (try clear hb2); (try clear hk); (try clear hi); (try clear ho0); (try clear ho1)) | ((with_reducible refine gate_dst (N := 1) rfl ?_); (try (refine gate_guard (by rfl) ?_; dsimp only)); refine box_event ?hg (N := 1) ?hd (cs := #[.slice none 0 0, .slice none 0 0]) (t := 27) ?hr ?_; (case hd => rfl); (case hg => rfl); (case hr => first | (go_simp; done) | (go_simp; rfl)); intro gb535 hg w14 hbox hb; have n0_ := Aside0.mk (Kd.R_below (by (with_reducible repeat (first | apply Kd.R_alloc | apply Kd.R_drewN | apply Kd.R_drew)); exact HO528.out) hb); have n1_ := Aside0.mk (Kd.R_below (by (with_reducible repeat (first | apply Kd.R_alloc | apply Kd.R_drewN | apply Kd.R_drew)); exact HO531.out) hb); have n2_ := Aside0.mk (Kd.N_below (Kd.N_elderB (by (with_reducible repeat (first | apply Kd.N_alloc | apply Kd.N_drewN | apply Kd.N_drew)); exact HO534.out) gb535 (Nat.le_of_eq hg.symm)) hb); have n3_ := Aside0.mk (below_step (by repeat (first | (with_reducible first | exact HB.out | apply below_alloc | apply pw_below_drewN | apply below_drew1) | exact HB.out)) hb); have n4_ := Aside0.mk (hbox); have n5_ := Aside0.mk ((by rw [hg]; exact (below_size (by repeat (first | (with_reducible first | exact HB.out | apply below_alloc | apply pw_below_drewN | apply below_drew1) | exact HB.out))) : w.heap.size ≤ gb535)); have n6_ := Aside0.mk ((by rw [hg]; exact (below_size (by repeat (first | (with_reducible first | exact HB.out | apply below_alloc | apply pw_below_drewN | apply below_drew1) | exact HB.out))) : w.heap.size ≤ gb535)); clear HO528; clear HO531; clear HO534; clear HB; have HO528 := n0_; have HO531 := n1_; have HO534 := n2_; have HB := n3_; have BK535 := n4_; have GW535 := n5_; have GE535 := n6_; clear n0_ n1_ n2_ n3_ n4_ n5_ n6_; clear hb hbox hg; obtain ⟨Ao15, co15, eo15⟩ := Kd.R_slice HO531.out; subst eo15; have hcz16_0 : w14.cell? ⟨gb535, 0, none⟩ = some (.slice none 0 0) := (blk_cell BK535.out 0).trans rfl; have hcz16_1 : w14.cell? ⟨gb535, 1, none⟩ = some (.slice none 0 0) := (blk_cell BK535.out 1).trans rfl; have hfz16_0 := blk_frozen BK535.out 0; have hfz16_1 := blk_frozen BK535.out 1; obtain ⟨Ao17, co17, eo17⟩ := Kd.N_slice HO534.out; subst eo17) | ((with_reducible refine gate_dst (N := 7) rfl ?_); (try (refine gate_guard (by rfl) ?_; dsimp only)); refine Kd.R_lit (Kd.int .i64) _ 3 ?hg (N := 7) ?hd (xs := ([0, (-1)] : List Int)) (inner := [.int .i64 0, .int .i64 (-1)]) (ok := fun _ => True) (okp := fun _ => True) ?hr ?hp (fun _ hk => hk) trivial (Below.refl _ _) (Nat.le_refl _) (by simp) ?_; (case hd => rfl); (case hg => rfl); (case hr => first | (go_simp; done) | (go_simp; rfl)); (case hp => exact (Reps.one (show Kd.M (Kd.int .i64) _ _ _ 0 [.int .i64 0] from rfl) (Reps.one (show Kd.M (Kd.int .i64) _ _ _ (-1) [.int .i64 (-1)] from rfl) (Reps.none _ _)))); intro v537 w18 ho19 hb hg_ hnew_; clear hg_ hnew_; (first | rw [← Ny536.out] at ho19 | (simp only [Int.reduceToNat] at ho19; rw [← Ny536.out] at ho19)); have n0_ := Aside0.mk (Kd.R_elder' (by (with_reducible repeat (first | apply Kd.R_alloc | apply Kd.R_drewN | apply Kd.R_drew)); exact (Kd.R_mono (Kd.R_far (p := ⟨gb535, 1, none⟩) (Kd.R_far (p := ⟨gb535, 0, none⟩) (Kd.R_types HO528.out BK535.out (by decide)) (fun _ hk => hk.2) (.slice Ao15 t529.length co15)) (fun _ hk => hk.2) (.slice Ao17 t532.length co17)) (fun _ h_ => h_.1))) (Kd.R_base ho19) hb); have n1_ := Aside0.mk (Kd.R_elder' (by (with_reducible repeat (first | apply Kd.R_alloc | apply Kd.R_drewN | apply Kd.R_drew)); exact (Kd.R_mono (Kd.R_far (p := ⟨gb535, 1, none⟩) (Kd.R_far (p := ⟨gb535, 0, none⟩) (Kd.R_types HO531.out BK535.out (by decide)) (fun _ hk => hk.2) (.slice Ao15 t529.length co15)) (fun _ hk => hk.2) (.slice Ao17 t532.length co17)) (fun _ h_ => h_.1))) (Kd.R_base ho19) hb); have n2_ := Aside0.mk (Kd.N_elder' (by (with_reducible repeat (first | apply Kd.N_alloc | apply Kd.N_drewN | apply Kd.N_drew)); exact (Kd.N_mono (Kd.N_far (p := ⟨gb535, 1, none⟩) (Kd.N_far (p := ⟨gb535, 0, none⟩) (Kd.N_mono HO534.out (fun k_ hk => (⟨hk, hk.2⟩ : _ ∧ k_ ≠ gb535))) (fun _ hk => hk.2) (.slice Ao15 t529.length co15)) (fun _ hk => hk.2) (.slice Ao17 t532.length co17)) (fun _ h_ => h_.1))) (Kd.R_base ho19) hb); have n3_ := Aside0.mk (Kd.R_lower (Kd.R_new' (Kd.R_new' ho19 (Kd.R_lt (by (with_reducible repeat (first | apply Kd.R_alloc | apply Kd.R_drewN | apply Kd.R_drew)); exact (Kd.R_mono (Kd.R_far (p := ⟨gb535, 1, none⟩) (Kd.R_far (p := ⟨gb535, 0, none⟩) (Kd.R_types HO528.out BK535.out (by decide)) (fun _ hk => hk.2) (.slice Ao15 t529.length co15)) (fun _ hk => hk.2) (.slice Ao17 t532.length co17)) (fun _ h_ => h_.1))))) (Kd.R_lt (by (with_reducible repeat (first | apply Kd.R_alloc | apply Kd.R_drewN | apply Kd.R_drew)); exact (Kd.R_mono (Kd.R_far (p := ⟨gb535, 1, none⟩) (Kd.R_far (p := ⟨gb535, 0, none⟩) (Kd.R_types HO531.out BK535.out (by decide)) (fun _ hk => hk.2) (.slice Ao15 t529.length co15)) (fun _ hk => hk.2) (.slice Ao17 t532.length co17)) (fun _ h_ => h_.1))))) (below_size (by repeat (first | (with_reducible first | exact HB.out | apply below_alloc | apply pw_below_drewN | apply below_drew1 | refine below_set ?_ GE535.out) | exact HB.out)))); have n4_ := Aside0.mk (blk_below (g := gb535) (o := .cells #[.slice Ao15 t529.length co15, .slice Ao17 t532.length co17] 27 (0, 0)) (by (with_reducible repeat (first | refine blk_drewN ?_ _ | refine blk_drew ?_ | refine blk_alloc ?_ _)); refine blk_put (cs := #[.slice Ao15 t529.length co15, .slice none 0 0]) ?_ 1 _ rfl; (with_reducible repeat (first | refine blk_drewN ?_ _ | refine blk_drew ?_ | refine blk_alloc ?_ _)); refine blk_put (cs := #[.slice none 0 0, .slice none 0 0]) ?_ 0 _ rfl; (with_reducible repeat (first | refine blk_drewN ?_ _ | refine blk_drew ?_ | refine blk_alloc ?_ _)); exact BK535.out) hb); have n5_ := Aside0.mk (below_step (by repeat (first | (with_reducible first | exact HB.out | apply below_alloc | apply pw_below_drewN | apply below_drew1 | refine below_set ?_ GE535.out) | exact HB.out)) hb); clear HO528; clear HO531; clear HO534; clear BK535; clear HB; have HO528 := n0_; have HO531 := n1_; have HO534 := n2_; have HO538 := n3_; have BK535 := n4_; have HB := n5_; clear n0_ n1_ n2_ n3_ n4_ n5_; clear hb ho19) | ((with_reducible refine gate_dst (N := 8) rfl ?_); (try (refine gate_guard (by rfl) ?_; dsimp only)); refine Kd.R_lit (Kd.int .i64) _ 3 ?hg (N := 8) ?hd (xs := ([1, 0] : List Int)) (inner := [.int .i64 1, .int .i64 0]) (ok := fun _ => True) (okp := fun _ => True) ?hr ?hp (fun _ hk => hk) trivial (Below.refl _ _) (Nat.le_refl _) (by simp) ?_; (case hd => rfl); (case hg => rfl); (case hr => first | (go_simp; done) | (go_simp; rfl)); (case hp => exact (Reps.one (show Kd.M (Kd.int .i64) _ _ _ 1 [.int .i64 1] from rfl) (Reps.one (show Kd.M (Kd.int .i64) _ _ _ 0 [.int .i64 0] from rfl) (Reps.none _ _)))); intro v540 w20 ho21 hb hg_ hnew_; clear hg_ hnew_; (first | rw [← Ny539.out] at ho21 | (simp only [Int.reduceToNat] at ho21; rw [← Ny539.out] at ho21)); have n0_ := Aside0.mk (Kd.R_elder' (by (with_reducible repeat (first | apply Kd.R_alloc | apply Kd.R_drewN | apply Kd.R_drew)); exact HO528.out) (Kd.R_base ho21) hb); have n1_ := Aside0.mk (Kd.R_elder' (by (with_reducible repeat (first | apply Kd.R_alloc | apply Kd.R_drewN | apply Kd.R_drew)); exact HO531.out) (Kd.R_base ho21) hb); have n2_ := Aside0.mk (Kd.N_elder' (by (with_reducible repeat (first | apply Kd.N_alloc | apply Kd.N_drewN | apply Kd.N_drew)); exact HO534.out) (Kd.R_base ho21) hb); have n3_ := Aside0.mk (Kd.R_elder' (by (with_reducible repeat (first | apply Kd.R_alloc | apply Kd.R_drewN | apply Kd.R_drew)); exact HO538.out) (Kd.R_base ho21) hb); have n4_ := Aside0.mk (Kd.R_lower (Kd.R_new' (Kd.R_new' (Kd.R_new' ho21 (Kd.R_lt (by (with_reducible repeat (first | apply Kd.R_alloc | apply Kd.R_drewN | apply Kd.R_drew)); exact HO528.out))) (Kd.R_lt (by (with_reducible repeat (first | apply Kd.R_alloc | apply Kd.R_drewN | apply Kd.R_drew)); exact HO531.out))) (Kd.R_lt (by (with_reducible repeat (first | apply Kd.R_alloc | apply Kd.R_drewN | apply Kd.R_drew)); exact HO538.out))) (below_size (by repeat (first | (with_reducible first | exact HB.out | apply below_alloc | apply pw_below_drewN | apply below_drew1 | refine below_set ?_ GE535.out) | exact HB.out)))); have n5_ := Aside0.mk (blk_below (g := gb535) (o := .cells #[.slice Ao15 t529.length co15, .slice Ao17 t532.length co17] 27 (0, 0)) (by (with_reducible repeat (first | refine blk_drewN ?_ _ | refine blk_drew ?_ | refine blk_alloc ?_ _)); exact BK535.out) hb); have n6_ := Aside0.mk (below_step (by repeat (first | (with_reducible first | exact HB.out | apply below_alloc | apply pw_below_drewN | apply below_drew1 | refine below_set ?_ GE535.out) | exact HB.out)) hb); clear HO528; clear HO531; clear HO534; clear HO538; clear BK535; clear HB; have HO528 := n0_; have HO531 := n1_; have HO534 := n2_; have HO538 := n3_; have HO541 := n4_; have BK535 := n5_; have HB := n6_; clear n0_ n1_ n2_ n3_ n4_ n5_ n6_; clear hb ho21) | ((with_reducible refine gate_dst (N := 9) rfl ?_); (try (refine gate_guard (by rfl) ?_; dsimp only)); refine Kd.R_lit (Kd.int .i64) _ 3 ?hg (N := 9) ?hd (xs := ([2, 0] : List Int)) (inner := [.int .i64 2, .int .i64 0]) (ok := fun _ => True) (okp := fun _ => True) ?hr ?hp (fun _ hk => hk) trivial (Below.refl _ _) (Nat.le_refl _) (by simp) ?_; (case hd => rfl); (case hg => rfl); (case hr => first | (go_simp; done) | (go_simp; rfl)); (case hp => exact (Reps.one (show Kd.M (Kd.int .i64) _ _ _ 2 [.int .i64 2] from rfl) (Reps.one (show Kd.M (Kd.int .i64) _ _ _ 0 [.int .i64 0] from rfl) (Reps.none _ _)))); intro v543 w22 ho23 hb hg_ hnew_; clear hg_ hnew_; (first | rw [← Ny542.out] at ho23 | (simp only [Int.reduceToNat] at ho23; rw [← Ny542.out] at ho23)); have n0_ := Aside0.mk (Kd.R_elder' (by (with_reducible repeat (first | apply Kd.R_alloc | apply Kd.R_drewN | apply Kd.R_drew)); exact HO528.out) (Kd.R_base ho23) hb); have n1_ := Aside0.mk (Kd.R_elder' (by (with_reducible repeat (first | apply Kd.R_alloc | apply Kd.R_drewN | apply Kd.R_drew)); exact HO531.out) (Kd.R_base ho23) hb); have n2_ := Aside0.mk (Kd.N_elder' (by (with_reducible repeat (first | apply Kd.N_alloc | apply Kd.N_drewN | apply Kd.N_drew)); exact HO534.out) (Kd.R_base ho23) hb); have n3_ := Aside0.mk (Kd.R_elder' (by (with_reducible repeat (first | apply Kd.R_alloc | apply Kd.R_drewN | apply Kd.R_drew)); exact HO538.out) (Kd.R_base ho23) hb); have n4_ := Aside0.mk (Kd.R_elder' (by (with_reducible repeat (first | apply Kd.R_alloc | apply Kd.R_drewN | apply Kd.R_drew)); exact HO541.out) (Kd.R_base ho23) hb); have n5_ := Aside0.mk (Kd.R_lower (Kd.R_new' (Kd.R_new' (Kd.R_new' (Kd.R_new' ho23 (Kd.R_lt (by (with_reducible repeat (first | apply Kd.R_alloc | apply Kd.R_drewN | apply Kd.R_drew)); exact HO528.out))) (Kd.R_lt (by (with_reducible repeat (first | apply Kd.R_alloc | apply Kd.R_drewN | apply Kd.R_drew)); exact HO531.out))) (Kd.R_lt (by (with_reducible repeat (first | apply Kd.R_alloc | apply Kd.R_drewN | apply Kd.R_drew)); exact HO538.out))) (Kd.R_lt (by (with_reducible repeat (first | apply Kd.R_alloc | apply Kd.R_drewN | apply Kd.R_drew)); exact HO541.out))) (below_size (by repeat (first | (with_reducible first | exact HB.out | apply below_alloc | apply pw_below_drewN | apply below_drew1 | refine below_set ?_ GE535.out) | exact HB.out)))); have n6_ := Aside0.mk (blk_below (g := gb535) (o := .cells #[.slice Ao15 t529.length co15, .slice Ao17 t532.length co17] 27 (0, 0)) (by (with_reducible repeat (first | refine blk_drewN ?_ _ | refine blk_drew ?_ | refine blk_alloc ?_ _)); exact BK535.out) hb); have n7_ := Aside0.mk (below_step (by repeat (first | (with_reducible first | exact HB.out | apply below_alloc | apply pw_below_drewN | apply below_drew1 | refine below_set ?_ GE535.out) | exact HB.out)) hb); clear HO528; clear HO531; clear HO534; clear HO538; clear HO541; clear BK535; clear HB; have HO528 := n0_; have HO531 := n1_; have HO534 := n2_; have HO538 := n3_; have HO541 := n4_; have HO544 := n5_; have BK535 := n6_; have HB := n7_; clear n0_ n1_ n2_ n3_ n4_ n5_ n6_ n7_; clear hb ho23; obtain ⟨Ao24, co24, eo24⟩ := Kd.R_slice HO538.out; subst eo24; obtain ⟨Ao25, co25, eo25⟩ := Kd.R_slice HO541.out; subst eo25; obtain ⟨Ao26, co26, eo26⟩ := Kd.R_slice HO544.out; subst eo26) | ((with_reducible refine gate_dst (N := 10) rfl ?_); (try (refine gate_guard (by rfl) ?_; dsimp only)); refine Kd.N_lit (Kd.slice 3 (Kd.int .i64)) _ 22 ?hg (N' := 10) ?hd (xs := ([y536, y539, y542] : List (List Int))) (inner := [.slice Ao24 y536.length co24, .slice Ao25 y539.length co25, .slice Ao26 y542.length co26]) (ok := (fun k_ => some k_ ≠ (.slice Ao12 y526.length co12 : Value).ownBlock ∧ some k_ ≠ (.slice Ao15 t529.length co15 : Value).ownBlock ∧ some k_ ≠ (.slice Ao17 t532.length co17 : Value).ownBlock ∧ k_ ≠ gb535)) (okp := (fun k_ => some k_ ≠ (.slice Ao12 y526.length co12 : Value).ownBlock ∧ some k_ ≠ (.slice Ao15 t529.length co15 : Value).ownBlock ∧ some k_ ≠ (.slice Ao17 t532.length co17 : Value).ownBlock ∧ k_ ≠ gb535)) ?hr ?hp (fun _ hk => hk) ((show ∀ k_, w22.heap.size ≤ k_ → (fun k_ => some k_ ≠ (.slice Ao12 y526.length co12 : Value).ownBlock ∧ some k_ ≠ (.slice Ao15 t529.length co15 : Value).ownBlock ∧ some k_ ≠ (.slice Ao17 t532.length co17 : Value).ownBlock ∧ k_ ≠ gb535) k_ from fun k_ hk => ⟨Kd.fresh' (Kd.R_lt (by (with_reducible repeat (first | apply Kd.R_alloc | apply Kd.R_drewN | apply Kd.R_drew)); exact HO528.out)) k_ hk, Kd.fresh' (Kd.R_lt (by (with_reducible repeat (first | apply Kd.R_alloc | apply Kd.R_drewN | apply Kd.R_drew)); exact HO531.out)) k_ hk, Kd.fresh' (Kd.N_lt (by (with_reducible repeat (first | apply Kd.N_alloc | apply Kd.N_drewN | apply Kd.N_drew)); exact HO534.out)) k_ hk, Kd.freshB (g := gb535) (o := .cells #[.slice Ao15 t529.length co15, .slice Ao17 t532.length co17] 27 (0, 0)) (by (with_reducible repeat (first | refine blk_drewN ?_ _ | refine blk_drew ?_ | refine blk_alloc ?_ _)); exact BK535.out) k_ hk⟩) _ (Nat.le_refl _)) (Below.refl _ _) (Nat.le_refl _) (by simp) ?_; (case hd => rfl); (case hg => rfl); (case hr => first | (go_simp; done) | (go_simp; rfl)); (case hp => exact (Reps.one (show Kd.FK (Kd.slice 3 (Kd.int .i64)) _ _ y536 [.slice Ao24 y536.length co24] from (Kd.FK_slice_mk (Kd.R_reads' (Kd.R_mono (ok' := (fun k_ => some k_ ≠ (.slice Ao12 y526.length co12 : Value).ownBlock ∧ some k_ ≠ (.slice Ao15 t529.length co15 : Value).ownBlock ∧ some k_ ≠ (.slice Ao17 t532.length co17 : Value).ownBlock ∧ k_ ≠ gb535)) (Kd.R_types (Kd.R_apart' (HO538.out) (Kd.N_typed HO534.out) (by decide)) BK535.out (by decide)) (fun k_ hk => ⟨hk.1.1.1.1.1.2, ⟨hk.1.1.1.1.2, ⟨hk.1.2, hk.2⟩⟩⟩))).2.1 (Kd.R_F (Kd.R_mono (ok' := (fun k_ => some k_ ≠ (.slice Ao12 y526.length co12 : Value).ownBlock ∧ some k_ ≠ (.slice Ao15 t529.length co15 : Value).ownBlock ∧ some k_ ≠ (.slice Ao17 t532.length co17 : Value).ownBlock ∧ k_ ≠ gb535)) (Kd.R_types (Kd.R_apart' (HO538.out) (Kd.N_typed HO534.out) (by decide)) BK535.out (by decide)) (fun k_ hk => ⟨hk.1.1.1.1.1.2, ⟨hk.1.1.1.1.2, ⟨hk.1.2, hk.2⟩⟩⟩))))) (Reps.one (show Kd.FK (Kd.slice 3 (Kd.int .i64)) _ _ y539 [.slice Ao25 y539.length co25] from (Kd.FK_slice_mk (Kd.R_reads' (Kd.R_mono (ok' := (fun k_ => some k_ ≠ (.slice Ao12 y526.length co12 : Value).ownBlock ∧ some k_ ≠ (.slice Ao15 t529.length co15 : Value).ownBlock ∧ some k_ ≠ (.slice Ao17 t532.length co17 : Value).ownBlock ∧ k_ ≠ gb535)) (Kd.R_types (Kd.R_apart' (HO541.out) (Kd.N_typed HO534.out) (by decide)) BK535.out (by decide)) (fun k_ hk => ⟨hk.1.1.1.1.1.2, ⟨hk.1.1.1.1.2, ⟨hk.1.2, hk.2⟩⟩⟩))).2.1 (Kd.R_F (Kd.R_mono (ok' := (fun k_ => some k_ ≠ (.slice Ao12 y526.length co12 : Value).ownBlock ∧ some k_ ≠ (.slice Ao15 t529.length co15 : Value).ownBlock ∧ some k_ ≠ (.slice Ao17 t532.length co17 : Value).ownBlock ∧ k_ ≠ gb535)) (Kd.R_types (Kd.R_apart' (HO541.out) (Kd.N_typed HO534.out) (by decide)) BK535.out (by decide)) (fun k_ hk => ⟨hk.1.1.1.1.1.2, ⟨hk.1.1.1.1.2, ⟨hk.1.2, hk.2⟩⟩⟩))))) (Reps.one (show Kd.FK (Kd.slice 3 (Kd.int .i64)) _ _ y542 [.slice Ao26 y542.length co26] from (Kd.FK_slice_mk (Kd.R_reads' (Kd.R_mono (ok' := (fun k_ => some k_ ≠ (.slice Ao12 y526.length co12 : Value).ownBlock ∧ some k_ ≠ (.slice Ao15 t529.length co15 : Value).ownBlock ∧ some k_ ≠ (.slice Ao17 t532.length co17 : Value).ownBlock ∧ k_ ≠ gb535)) (Kd.R_types (Kd.R_apart' (HO544.out) (Kd.N_typed HO534.out) (by decide)) BK535.out (by decide)) (fun k_ hk => ⟨hk.1.1.1.1.1.2, ⟨hk.1.1.1.1.2, ⟨hk.1.2, hk.2⟩⟩⟩))).2.1 (Kd.R_F (Kd.R_mono (ok' := (fun k_ => some k_ ≠ (.slice Ao12 y526.length co12 : Value).ownBlock ∧ some k_ ≠ (.slice Ao15 t529.length co15 : Value).ownBlock ∧ some k_ ≠ (.slice Ao17 t532.length co17 : Value).ownBlock ∧ k_ ≠ gb535)) (Kd.R_types (Kd.R_apart' (HO544.out) (Kd.N_typed HO534.out) (by decide)) BK535.out (by decide)) (fun k_ hk => ⟨hk.1.1.1.1.1.2, ⟨hk.1.1.1.1.2, ⟨hk.1.2, hk.2⟩⟩⟩))))) (Reps.none _ _))))); intro v546 w27 ho28 hb hg_ hnew_; clear hg_ hnew_; (first | rw [← Ny545.out] at ho28 | (simp only [Int.reduceToNat] at ho28; rw [← Ny545.out] at ho28)); have n0_ := Aside0.mk (Kd.R_below (by (with_reducible repeat (first | apply Kd.R_alloc | apply Kd.R_drewN | apply Kd.R_drew)); exact HO528.out) hb); have n1_ := Aside0.mk (Kd.R_below (by (with_reducible repeat (first | apply Kd.R_alloc | apply Kd.R_drewN | apply Kd.R_drew)); exact HO531.out) hb); have n2_ := Aside0.mk (Kd.N_elder' (by (with_reducible repeat (first | apply Kd.N_alloc | apply Kd.N_drewN | apply Kd.N_drew)); exact HO534.out) (Kd.N_base ho28) hb); have n3_ := Aside0.mk (Kd.N_lower ho28 (below_size (by repeat (first | (with_reducible first | exact HB.out | apply below_alloc | apply pw_below_drewN | apply below_drew1 | refine below_set ?_ GE535.out) | exact HB.out)))); have n4_ := Aside0.mk (blk_below (g := gb535) (o := .cells #[.slice Ao15 t529.length co15, .slice Ao17 t532.length co17] 27 (0, 0)) (by (with_reducible repeat (first | refine blk_drewN ?_ _ | refine blk_drew ?_ | refine blk_alloc ?_ _)); exact BK535.out) hb); have n5_ := Aside0.mk (below_step (by repeat (first | (with_reducible first | exact HB.out | apply below_alloc | apply pw_below_drewN | apply below_drew1 | refine below_set ?_ GE535.out) | exact HB.out)) hb); clear HO528; clear HO531; clear HO534; clear BK535; clear HB; clear HO538; clear HO541; clear HO544; have HO528 := n0_; have HO531 := n1_; have HO534 := n2_; have HO547 := n3_; have BK535 := n4_; have HB := n5_; clear n0_ n1_ n2_ n3_ n4_ n5_; clear hb ho28; have hcz29_0 : w27.cell? ⟨gb535, 0, none⟩ = some (.slice Ao15 t529.length co15) := (blk_cell BK535.out 0).trans rfl; have hcz29_1 : w27.cell? ⟨gb535, 1, none⟩ = some (.slice Ao17 t532.length co17) := (blk_cell BK535.out 1).trans rfl; have hfz29_0 := blk_frozen BK535.out 0; have hfz29_1 := blk_frozen BK535.out 1; obtain ⟨Ao30, co30, eo30⟩ := Kd.N_slice HO547.out; subst eo30) | ((with_reducible refine gate_callee (f := 45) rfl ?_); refine goesL_ (some 13) rfl rfl Try.func45 (by kernel_rfl) rfl #[.agg #[.slice Ao15 t529.length co15, .slice Ao17 t532.length co17], .slice Ao30 y545.length co30] rfl (by (try simp only [List.map_toArray, List.map_cons, List.map_nil]); first | done | rfl | (simp only [List.length_drop, List.length_take]; rfl)) ?_; (with_reducible refine (bfs_Parents.calls k _ _ t529 _ _ t532 _ _ y545 t548 _ ?side1 ?side2 ?side3 ?side4 ?side5 ?side6 A2.out).mono ?_); (case side1 => repeat (first | exact (Kd.R_reads' HO531.out).2.2 | (with_reducible refine Kd.C_alloc ?_ _) | (with_reducible refine Kd.C_drewN ?_ _) | (with_reducible refine Kd.C_drew ?_))); (case side2 => exact (Kd.R_reads' HO531.out).2.1); (case side3 => repeat (first | exact (Kd.N_reads' HO534.out).2.2 | (with_reducible refine Kd.C_alloc ?_ _) | (with_reducible refine Kd.C_drewN ?_ _) | (with_reducible refine Kd.C_drew ?_))); (case side4 => exact (Kd.N_reads' HO534.out).2.1); (case side5 => repeat (first | exact (Kd.N_reads' HO547.out).2.2 | (with_reducible refine Kd.C_alloc ?_ _) | (with_reducible refine Kd.C_drewN ?_ _) | (with_reducible refine Kd.C_drew ?_))); (case side6 => exact (Kd.N_reads' HO547.out).2.1); rintro e w31 ⟨v549, rfl, ho0, hb⟩; refine ⟨_, rfl, ?_⟩; have n0_ := Aside0.mk (Kd.R_elder' (by (with_reducible repeat (first | apply Kd.R_alloc | apply Kd.R_drewN | apply Kd.R_drew)); exact HO528.out) (Kd.R_base ho0) hb); have n1_ := Aside0.mk (Kd.R_elder' (by (with_reducible repeat (first | apply Kd.R_alloc | apply Kd.R_drewN | apply Kd.R_drew)); exact HO531.out) (Kd.R_base ho0) hb); have n2_ := Aside0.mk (Kd.N_elder' (by (with_reducible repeat (first | apply Kd.N_alloc | apply Kd.N_drewN | apply Kd.N_drew)); exact HO534.out) (Kd.R_base ho0) hb); have n3_ := Aside0.mk (Kd.N_elder' (by (with_reducible repeat (first | apply Kd.N_alloc | apply Kd.N_drewN | apply Kd.N_drew)); exact HO547.out) (Kd.R_base ho0) hb); have n4_ := Aside0.mk (Kd.R_lower (Kd.R_new' (Kd.R_new' ho0 (Kd.R_lt (by (with_reducible repeat (first | apply Kd.R_alloc | apply Kd.R_drewN | apply Kd.R_drew)); exact HO528.out))) (Kd.R_lt (by (with_reducible repeat (first | apply Kd.R_alloc | apply Kd.R_drewN | apply Kd.R_drew)); exact HO531.out))) (below_size (by repeat (first | (with_reducible first | exact HB.out | apply below_alloc | apply pw_below_drewN | apply below_drew1 | refine below_set ?_ GE535.out) | exact HB.out)))); have n5_ := Aside0.mk (blk_below (g := gb535) (o := .cells #[.slice Ao15 t529.length co15, .slice Ao17 t532.length co17] 27 (0, 0)) (by (with_reducible repeat (first | refine blk_drewN ?_ _ | refine blk_drew ?_ | refine blk_alloc ?_ _)); exact BK535.out) hb); have n6_ := Aside0.mk (below_step (by repeat (first | (with_reducible first | exact HB.out | apply below_alloc | apply pw_below_drewN | apply below_drew1 | refine below_set ?_ GE535.out) | exact HB.out)) hb); clear HO528; clear HO531; clear HO534; clear HO547; clear BK535; clear HB; have HO528 := n0_; have HO531 := n1_; have HO534 := n2_; have HO547 := n3_; have HO550 := n4_; have BK535 := n5_; have HB := n6_; clear n0_ n1_ n2_ n3_ n4_ n5_ n6_; (try clear hb); (try clear hb2); (try clear hk); (try clear hi); (try clear ho0); have hcz32_0 : w31.cell? ⟨gb535, 0, none⟩ = some (.slice Ao15 t529.length co15) := (blk_cell BK535.out 0).trans rfl; have hcz32_1 : w31.cell? ⟨gb535, 1, none⟩ = some (.slice Ao17 t532.length co17) := (blk_cell BK535.out 1).trans rfl; have hfz32_0 := blk_frozen BK535.out 0; have hfz32_1 := blk_frozen BK535.out 1) | ((with_reducible refine gate_callee (f := 40) rfl ?_); refine goesL_ (some 16) rfl rfl Try.func40 (by kernel_rfl) rfl #[.agg #[.slice Ao15 t529.length co15, .slice Ao17 t532.length co17], .slice Ao30 y545.length co30] rfl (by (try simp only [List.map_toArray, List.map_cons, List.map_nil]); first | done | rfl | (simp only [List.length_drop, List.length_take]; rfl)) ?_; (with_reducible refine (bfs_Legit.calls k _ _ t529 _ _ t532 _ _ y545 true _ ?side1 ?side2 ?side3 ?side4 ?side5 ?side6 A3.out).mono ?_); (case side1 => repeat (first | exact (Kd.R_reads' HO531.out).2.2 | (with_reducible refine Kd.C_alloc ?_ _) | (with_reducible refine Kd.C_drewN ?_ _) | (with_reducible refine Kd.C_drew ?_))); (case side2 => exact (Kd.R_reads' HO531.out).2.1); (case side3 => repeat (first | exact (Kd.N_reads' HO534.out).2.2 | (with_reducible refine Kd.C_alloc ?_ _) | (with_reducible refine Kd.C_drewN ?_ _) | (with_reducible refine Kd.C_drew ?_))); (case side4 => exact (Kd.N_reads' HO534.out).2.1); (case side5 => repeat (first | exact (Kd.N_reads' HO547.out).2.2 | (with_reducible refine Kd.C_alloc ?_ _) | (with_reducible refine Kd.C_drewN ?_ _) | (with_reducible refine Kd.C_drew ?_))); (case side6 => exact (Kd.N_reads' HO547.out).2.1); rintro e w33 ⟨rfl, hb⟩; refine ⟨_, rfl, ?_⟩; have n0_ := Aside0.mk (Kd.R_below (by (with_reducible repeat (first | apply Kd.R_alloc | apply Kd.R_drewN | apply Kd.R_drew)); exact HO528.out) hb); have n1_ := Aside0.mk (Kd.R_below (by (with_reducible repeat (first | apply Kd.R_alloc | apply Kd.R_drewN | apply Kd.R_drew)); exact HO531.out) hb); have n2_ := Aside0.mk (Kd.N_below (by (with_reducible repeat (first | apply Kd.N_alloc | apply Kd.N_drewN | apply Kd.N_drew)); exact HO534.out) hb); have n3_ := Aside0.mk (Kd.N_below (by (with_reducible repeat (first | apply Kd.N_alloc | apply Kd.N_drewN | apply Kd.N_drew)); exact HO547.out) hb); have n4_ := Aside0.mk (Kd.R_below (by (with_reducible repeat (first | apply Kd.R_alloc | apply Kd.R_drewN | apply Kd.R_drew)); exact HO550.out) hb); have n5_ := Aside0.mk (blk_below (g := gb535) (o := .cells #[.slice Ao15 t529.length co15, .slice Ao17 t532.length co17] 27 (0, 0)) (by (with_reducible repeat (first | refine blk_drewN ?_ _ | refine blk_drew ?_ | refine blk_alloc ?_ _)); exact BK535.out) hb); have n6_ := Aside0.mk (below_step (by repeat (first | (with_reducible first | exact HB.out | apply below_alloc | apply pw_below_drewN | apply below_drew1 | refine below_set ?_ GE535.out) | exact HB.out)) hb); clear HO528; clear HO531; clear HO534; clear HO547; clear HO550; clear BK535; clear HB; have HO528 := n0_; have HO531 := n1_; have HO534 := n2_; have HO547 := n3_; have HO550 := n4_; have BK535 := n5_; have HB := n6_; clear n0_ n1_ n2_ n3_ n4_ n5_ n6_; (try clear hb); (try clear hb2); (try clear hk); (try clear hi); have hcz34_0 : w33.cell? ⟨gb535, 0, none⟩ = some (.slice Ao15 t529.length co15) := (blk_cell BK535.out 0).trans rfl; have hcz34_1 : w33.cell? ⟨gb535, 1, none⟩ = some (.slice Ao17 t532.length co17) := (blk_cell BK535.out 1).trans rfl; have hfz34_0 := blk_frozen BK535.out 0; have hfz34_1 := blk_frozen BK535.out 1) | ((with_reducible refine gate_dst (N := 19) rfl ?_); (try (refine gate_guard (by rfl) ?_; dsimp only)); refine Kd.R_lit (Kd.int .i64) _ 3 ?hg (N := 19) ?hd (xs := ([0, (-1)] : List Int)) (inner := [.int .i64 0, .int .i64 (-1)]) (ok := fun _ => True) (okp := fun _ => True) ?hr ?hp (fun _ hk => hk) trivial (Below.refl _ _) (Nat.le_refl _) (by simp) ?_; (case hd => rfl); (case hg => rfl); (case hr => first | (go_simp; done) | (go_simp; rfl)); (case hp => exact (Reps.one (show Kd.M (Kd.int .i64) _ _ _ 0 [.int .i64 0] from rfl) (Reps.one (show Kd.M (Kd.int .i64) _ _ _ (-1) [.int .i64 (-1)] from rfl) (Reps.none _ _)))); intro v553 w35 ho36 hb hg_ hnew_; clear hg_ hnew_; (first | rw [← Ny552.out] at ho36 | (simp only [Int.reduceToNat] at ho36; rw [← Ny552.out] at ho36)); have n0_ := Aside0.mk (Kd.R_elder' (by (with_reducible repeat (first | apply Kd.R_alloc | apply Kd.R_drewN | apply Kd.R_drew)); exact HO528.out) (Kd.R_base ho36) hb); have n1_ := Aside0.mk (Kd.R_elder' (by (with_reducible repeat (first | apply Kd.R_alloc | apply Kd.R_drewN | apply Kd.R_drew)); exact HO531.out) (Kd.R_base ho36) hb); have n2_ := Aside0.mk (Kd.N_elder' (by (with_reducible repeat (first | apply Kd.N_alloc | apply Kd.N_drewN | apply Kd.N_drew)); exact HO534.out) (Kd.R_base ho36) hb); have n3_ := Aside0.mk (Kd.N_elder' (by (with_reducible repeat (first | apply Kd.N_alloc | apply Kd.N_drewN | apply Kd.N_drew)); exact HO547.out) (Kd.R_base ho36) hb); have n4_ := Aside0.mk (Kd.R_elder' (by (with_reducible repeat (first | apply Kd.R_alloc | apply Kd.R_drewN | apply Kd.R_drew)); exact HO550.out) (Kd.R_base ho36) hb); have n5_ := Aside0.mk (Kd.R_lower (Kd.R_new' (Kd.R_new' (Kd.R_new' ho36 (Kd.R_lt (by (with_reducible repeat (first | apply Kd.R_alloc | apply Kd.R_drewN | apply Kd.R_drew)); exact HO528.out))) (Kd.R_lt (by (with_reducible repeat (first | apply Kd.R_alloc | apply Kd.R_drewN | apply Kd.R_drew)); exact HO531.out))) (Kd.R_lt (by (with_reducible repeat (first | apply Kd.R_alloc | apply Kd.R_drewN | apply Kd.R_drew)); exact HO550.out))) (below_size (by repeat (first | (with_reducible first | exact HB.out | apply below_alloc | apply pw_below_drewN | apply below_drew1 | refine below_set ?_ GE535.out) | exact HB.out)))); have n6_ := Aside0.mk (blk_below (g := gb535) (o := .cells #[.slice Ao15 t529.length co15, .slice Ao17 t532.length co17] 27 (0, 0)) (by (with_reducible repeat (first | refine blk_drewN ?_ _ | refine blk_drew ?_ | refine blk_alloc ?_ _)); exact BK535.out) hb); have n7_ := Aside0.mk (below_step (by repeat (first | (with_reducible first | exact HB.out | apply below_alloc | apply pw_below_drewN | apply below_drew1 | refine below_set ?_ GE535.out) | exact HB.out)) hb); clear HO528; clear HO531; clear HO534; clear HO547; clear HO550; clear BK535; clear HB; have HO528 := n0_; have HO531 := n1_; have HO534 := n2_; have HO547 := n3_; have HO550 := n4_; have HO554 := n5_; have BK535 := n6_; have HB := n7_; clear n0_ n1_ n2_ n3_ n4_ n5_ n6_ n7_; clear hb ho36) | ((with_reducible refine gate_dst (N := 20) rfl ?_); (try (refine gate_guard (by rfl) ?_; dsimp only)); refine Kd.R_lit (Kd.int .i64) _ 3 ?hg (N := 20) ?hd (xs := ([1, 1] : List Int)) (inner := [.int .i64 1, .int .i64 1]) (ok := fun _ => True) (okp := fun _ => True) ?hr ?hp (fun _ hk => hk) trivial (Below.refl _ _) (Nat.le_refl _) (by simp) ?_; (case hd => rfl); (case hg => rfl); (case hr => first | (go_simp; done) | (go_simp; rfl)); (case hp => exact (Reps.one (show Kd.M (Kd.int .i64) _ _ _ 1 [.int .i64 1] from rfl) (Reps.one (show Kd.M (Kd.int .i64) _ _ _ 1 [.int .i64 1] from rfl) (Reps.none _ _)))); intro v556 w37 ho38 hb hg_ hnew_; clear hg_ hnew_; (first | rw [← Ny555.out] at ho38 | (simp only [Int.reduceToNat] at ho38; rw [← Ny555.out] at ho38)); have n0_ := Aside0.mk (Kd.R_elder' (by (with_reducible repeat (first | apply Kd.R_alloc | apply Kd.R_drewN | apply Kd.R_drew)); exact HO528.out) (Kd.R_base ho38) hb); have n1_ := Aside0.mk (Kd.R_elder' (by (with_reducible repeat (first | apply Kd.R_alloc | apply Kd.R_drewN | apply Kd.R_drew)); exact HO531.out) (Kd.R_base ho38) hb); have n2_ := Aside0.mk (Kd.N_elder' (by (with_reducible repeat (first | apply Kd.N_alloc | apply Kd.N_drewN | apply Kd.N_drew)); exact HO534.out) (Kd.R_base ho38) hb); have n3_ := Aside0.mk (Kd.N_elder' (by (with_reducible repeat (first | apply Kd.N_alloc | apply Kd.N_drewN | apply Kd.N_drew)); exact HO547.out) (Kd.R_base ho38) hb); have n4_ := Aside0.mk (Kd.R_elder' (by (with_reducible repeat (first | apply Kd.R_alloc | apply Kd.R_drewN | apply Kd.R_drew)); exact HO550.out) (Kd.R_base ho38) hb); have n5_ := Aside0.mk (Kd.R_elder' (by (with_reducible repeat (first | apply Kd.R_alloc | apply Kd.R_drewN | apply Kd.R_drew)); exact HO554.out) (Kd.R_base ho38) hb); have n6_ := Aside0.mk (Kd.R_lower (Kd.R_new' (Kd.R_new' (Kd.R_new' (Kd.R_new' ho38 (Kd.R_lt (by (with_reducible repeat (first | apply Kd.R_alloc | apply Kd.R_drewN | apply Kd.R_drew)); exact HO528.out))) (Kd.R_lt (by (with_reducible repeat (first | apply Kd.R_alloc | apply Kd.R_drewN | apply Kd.R_drew)); exact HO531.out))) (Kd.R_lt (by (with_reducible repeat (first | apply Kd.R_alloc | apply Kd.R_drewN | apply Kd.R_drew)); exact HO550.out))) (Kd.R_lt (by (with_reducible repeat (first | apply Kd.R_alloc | apply Kd.R_drewN | apply Kd.R_drew)); exact HO554.out))) (below_size (by repeat (first | (with_reducible first | exact HB.out | apply below_alloc | apply pw_below_drewN | apply below_drew1 | refine below_set ?_ GE535.out) | exact HB.out)))); have n7_ := Aside0.mk (blk_below (g := gb535) (o := .cells #[.slice Ao15 t529.length co15, .slice Ao17 t532.length co17] 27 (0, 0)) (by (with_reducible repeat (first | refine blk_drewN ?_ _ | refine blk_drew ?_ | refine blk_alloc ?_ _)); exact BK535.out) hb); have n8_ := Aside0.mk (below_step (by repeat (first | (with_reducible first | exact HB.out | apply below_alloc | apply pw_below_drewN | apply below_drew1 | refine below_set ?_ GE535.out) | exact HB.out)) hb); clear HO528; clear HO531; clear HO534; clear HO547; clear HO550; clear HO554; clear BK535; clear HB; have HO528 := n0_; have HO531 := n1_; have HO534 := n2_; have HO547 := n3_; have HO550 := n4_; have HO554 := n5_; have HO557 := n6_; have BK535 := n7_; have HB := n8_; clear n0_ n1_ n2_ n3_ n4_ n5_ n6_ n7_ n8_; clear hb ho38) | ((with_reducible refine gate_dst (N := 21) rfl ?_); (try (refine gate_guard (by rfl) ?_; dsimp only)); refine Kd.R_lit (Kd.int .i64) _ 3 ?hg (N := 21) ?hd (xs := ([2, 0] : List Int)) (inner := [.int .i64 2, .int .i64 0]) (ok := fun _ => True) (okp := fun _ => True) ?hr ?hp (fun _ hk => hk) trivial (Below.refl _ _) (Nat.le_refl _) (by simp) ?_; (case hd => rfl); (case hg => rfl); (case hr => first | (go_simp; done) | (go_simp; rfl)); (case hp => exact (Reps.one (show Kd.M (Kd.int .i64) _ _ _ 2 [.int .i64 2] from rfl) (Reps.one (show Kd.M (Kd.int .i64) _ _ _ 0 [.int .i64 0] from rfl) (Reps.none _ _)))); intro v559 w39 ho40 hb hg_ hnew_; clear hg_ hnew_; (first | rw [← Ny558.out] at ho40 | (simp only [Int.reduceToNat] at ho40; rw [← Ny558.out] at ho40)); have n0_ := Aside0.mk (Kd.R_elder' (by (with_reducible repeat (first | apply Kd.R_alloc | apply Kd.R_drewN | apply Kd.R_drew)); exact HO528.out) (Kd.R_base ho40) hb); have n1_ := Aside0.mk (Kd.R_elder' (by (with_reducible repeat (first | apply Kd.R_alloc | apply Kd.R_drewN | apply Kd.R_drew)); exact HO531.out) (Kd.R_base ho40) hb); have n2_ := Aside0.mk (Kd.N_elder' (by (with_reducible repeat (first | apply Kd.N_alloc | apply Kd.N_drewN | apply Kd.N_drew)); exact HO534.out) (Kd.R_base ho40) hb); have n3_ := Aside0.mk (Kd.N_elder' (by (with_reducible repeat (first | apply Kd.N_alloc | apply Kd.N_drewN | apply Kd.N_drew)); exact HO547.out) (Kd.R_base ho40) hb); have n4_ := Aside0.mk (Kd.R_elder' (by (with_reducible repeat (first | apply Kd.R_alloc | apply Kd.R_drewN | apply Kd.R_drew)); exact HO550.out) (Kd.R_base ho40) hb); have n5_ := Aside0.mk (Kd.R_elder' (by (with_reducible repeat (first | apply Kd.R_alloc | apply Kd.R_drewN | apply Kd.R_drew)); exact HO554.out) (Kd.R_base ho40) hb); have n6_ := Aside0.mk (Kd.R_elder' (by (with_reducible repeat (first | apply Kd.R_alloc | apply Kd.R_drewN | apply Kd.R_drew)); exact HO557.out) (Kd.R_base ho40) hb); have n7_ := Aside0.mk (Kd.R_lower (Kd.R_new' (Kd.R_new' (Kd.R_new' (Kd.R_new' (Kd.R_new' ho40 (Kd.R_lt (by (with_reducible repeat (first | apply Kd.R_alloc | apply Kd.R_drewN | apply Kd.R_drew)); exact HO528.out))) (Kd.R_lt (by (with_reducible repeat (first | apply Kd.R_alloc | apply Kd.R_drewN | apply Kd.R_drew)); exact HO531.out))) (Kd.R_lt (by (with_reducible repeat (first | apply Kd.R_alloc | apply Kd.R_drewN | apply Kd.R_drew)); exact HO550.out))) (Kd.R_lt (by (with_reducible repeat (first | apply Kd.R_alloc | apply Kd.R_drewN | apply Kd.R_drew)); exact HO554.out))) (Kd.R_lt (by (with_reducible repeat (first | apply Kd.R_alloc | apply Kd.R_drewN | apply Kd.R_drew)); exact HO557.out))) (below_size (by repeat (first | (with_reducible first | exact HB.out | apply below_alloc | apply pw_below_drewN | apply below_drew1 | refine below_set ?_ GE535.out) | exact HB.out)))); have n8_ := Aside0.mk (blk_below (g := gb535) (o := .cells #[.slice Ao15 t529.length co15, .slice Ao17 t532.length co17] 27 (0, 0)) (by (with_reducible repeat (first | refine blk_drewN ?_ _ | refine blk_drew ?_ | refine blk_alloc ?_ _)); exact BK535.out) hb); have n9_ := Aside0.mk (below_step (by repeat (first | (with_reducible first | exact HB.out | apply below_alloc | apply pw_below_drewN | apply below_drew1 | refine below_set ?_ GE535.out) | exact HB.out)) hb); clear HO528; clear HO531; clear HO534; clear HO547; clear HO550; clear HO554; clear HO557; clear BK535; clear HB; have HO528 := n0_; have HO531 := n1_; have HO534 := n2_; have HO547 := n3_; have HO550 := n4_; have HO554 := n5_; have HO557 := n6_; have HO560 := n7_; have BK535 := n8_; have HB := n9_; clear n0_ n1_ n2_ n3_ n4_ n5_ n6_ n7_ n8_ n9_; clear hb ho40; obtain ⟨Ao41, co41, eo41⟩ := Kd.R_slice HO554.out; subst eo41; obtain ⟨Ao42, co42, eo42⟩ := Kd.R_slice HO557.out; subst eo42; obtain ⟨Ao43, co43, eo43⟩ := Kd.R_slice HO560.out; subst eo43) | ((with_reducible refine gate_dst (N := 22) rfl ?_); (try (refine gate_guard (by rfl) ?_; dsimp only)); refine Kd.N_lit (Kd.slice 3 (Kd.int .i64)) _ 22 ?hg (N' := 22) ?hd (xs := ([y552, y555, y558] : List (List Int))) (inner := [.slice Ao41 y552.length co41, .slice Ao42 y555.length co42, .slice Ao43 y558.length co43]) (ok := (fun k_ => some k_ ≠ (.slice Ao12 y526.length co12 : Value).ownBlock ∧ some k_ ≠ (.slice Ao15 t529.length co15 : Value).ownBlock ∧ some k_ ≠ (.slice Ao17 t532.length co17 : Value).ownBlock ∧ some k_ ≠ (.slice Ao30 y545.length co30 : Value).ownBlock ∧ some k_ ≠ (v549 : Value).ownBlock ∧ k_ ≠ gb535)) (okp := (fun k_ => some k_ ≠ (.slice Ao12 y526.length co12 : Value).ownBlock ∧ some k_ ≠ (.slice Ao15 t529.length co15 : Value).ownBlock ∧ some k_ ≠ (.slice Ao17 t532.length co17 : Value).ownBlock ∧ some k_ ≠ (.slice Ao30 y545.length co30 : Value).ownBlock ∧ some k_ ≠ (v549 : Value).ownBlock ∧ k_ ≠ gb535)) ?hr ?hp (fun _ hk => hk) ((show ∀ k_, w39.heap.size ≤ k_ → (fun k_ => some k_ ≠ (.slice Ao12 y526.length co12 : Value).ownBlock ∧ some k_ ≠ (.slice Ao15 t529.length co15 : Value).ownBlock ∧ some k_ ≠ (.slice Ao17 t532.length co17 : Value).ownBlock ∧ some k_ ≠ (.slice Ao30 y545.length co30 : Value).ownBlock ∧ some k_ ≠ (v549 : Value).ownBlock ∧ k_ ≠ gb535) k_ from fun k_ hk => ⟨Kd.fresh' (Kd.R_lt (by (with_reducible repeat (first | apply Kd.R_alloc | apply Kd.R_drewN | apply Kd.R_drew)); exact HO528.out)) k_ hk, Kd.fresh' (Kd.R_lt (by (with_reducible repeat (first | apply Kd.R_alloc | apply Kd.R_drewN | apply Kd.R_drew)); exact HO531.out)) k_ hk, Kd.fresh' (Kd.N_lt (by (with_reducible repeat (first | apply Kd.N_alloc | apply Kd.N_drewN | apply Kd.N_drew)); exact HO534.out)) k_ hk, Kd.fresh' (Kd.N_lt (by (with_reducible repeat (first | apply Kd.N_alloc | apply Kd.N_drewN | apply Kd.N_drew)); exact HO547.out)) k_ hk, Kd.fresh' (Kd.R_lt (by (with_reducible repeat (first | apply Kd.R_alloc | apply Kd.R_drewN | apply Kd.R_drew)); exact HO550.out)) k_ hk, Kd.freshB (g := gb535) (o := .cells #[.slice Ao15 t529.length co15, .slice Ao17 t532.length co17] 27 (0, 0)) (by (with_reducible repeat (first | refine blk_drewN ?_ _ | refine blk_drew ?_ | refine blk_alloc ?_ _)); exact BK535.out) k_ hk⟩) _ (Nat.le_refl _)) (Below.refl _ _) (Nat.le_refl _) (by simp) ?_; (case hd => rfl); (case hg => rfl); (case hr => first | (go_simp; done) | (go_simp; rfl)); (case hp => exact (Reps.one (show Kd.FK (Kd.slice 3 (Kd.int .i64)) _ _ y552 [.slice Ao41 y552.length co41] from (Kd.FK_slice_mk (Kd.R_reads' (Kd.R_mono (ok' := (fun k_ => some k_ ≠ (.slice Ao12 y526.length co12 : Value).ownBlock ∧ some k_ ≠ (.slice Ao15 t529.length co15 : Value).ownBlock ∧ some k_ ≠ (.slice Ao17 t532.length co17 : Value).ownBlock ∧ some k_ ≠ (.slice Ao30 y545.length co30 : Value).ownBlock ∧ some k_ ≠ (v549 : Value).ownBlock ∧ k_ ≠ gb535)) (Kd.R_types (Kd.R_apart' (Kd.R_apart' (HO554.out) (Kd.N_typed HO534.out) (by decide)) (Kd.N_typed HO547.out) (by decide)) BK535.out (by decide)) (fun k_ hk => ⟨hk.1.1.1.1.1.1.1.2, ⟨hk.1.1.1.1.1.1.2, ⟨hk.1.1.2, ⟨hk.1.2, ⟨hk.1.1.1.1.1.2, hk.2⟩⟩⟩⟩⟩))).2.1 (Kd.R_F (Kd.R_mono (ok' := (fun k_ => some k_ ≠ (.slice Ao12 y526.length co12 : Value).ownBlock ∧ some k_ ≠ (.slice Ao15 t529.length co15 : Value).ownBlock ∧ some k_ ≠ (.slice Ao17 t532.length co17 : Value).ownBlock ∧ some k_ ≠ (.slice Ao30 y545.length co30 : Value).ownBlock ∧ some k_ ≠ (v549 : Value).ownBlock ∧ k_ ≠ gb535)) (Kd.R_types (Kd.R_apart' (Kd.R_apart' (HO554.out) (Kd.N_typed HO534.out) (by decide)) (Kd.N_typed HO547.out) (by decide)) BK535.out (by decide)) (fun k_ hk => ⟨hk.1.1.1.1.1.1.1.2, ⟨hk.1.1.1.1.1.1.2, ⟨hk.1.1.2, ⟨hk.1.2, ⟨hk.1.1.1.1.1.2, hk.2⟩⟩⟩⟩⟩))))) (Reps.one (show Kd.FK (Kd.slice 3 (Kd.int .i64)) _ _ y555 [.slice Ao42 y555.length co42] from (Kd.FK_slice_mk (Kd.R_reads' (Kd.R_mono (ok' := (fun k_ => some k_ ≠ (.slice Ao12 y526.length co12 : Value).ownBlock ∧ some k_ ≠ (.slice Ao15 t529.length co15 : Value).ownBlock ∧ some k_ ≠ (.slice Ao17 t532.length co17 : Value).ownBlock ∧ some k_ ≠ (.slice Ao30 y545.length co30 : Value).ownBlock ∧ some k_ ≠ (v549 : Value).ownBlock ∧ k_ ≠ gb535)) (Kd.R_types (Kd.R_apart' (Kd.R_apart' (HO557.out) (Kd.N_typed HO534.out) (by decide)) (Kd.N_typed HO547.out) (by decide)) BK535.out (by decide)) (fun k_ hk => ⟨hk.1.1.1.1.1.1.1.2, ⟨hk.1.1.1.1.1.1.2, ⟨hk.1.1.2, ⟨hk.1.2, ⟨hk.1.1.1.1.1.2, hk.2⟩⟩⟩⟩⟩))).2.1 (Kd.R_F (Kd.R_mono (ok' := (fun k_ => some k_ ≠ (.slice Ao12 y526.length co12 : Value).ownBlock ∧ some k_ ≠ (.slice Ao15 t529.length co15 : Value).ownBlock ∧ some k_ ≠ (.slice Ao17 t532.length co17 : Value).ownBlock ∧ some k_ ≠ (.slice Ao30 y545.length co30 : Value).ownBlock ∧ some k_ ≠ (v549 : Value).ownBlock ∧ k_ ≠ gb535)) (Kd.R_types (Kd.R_apart' (Kd.R_apart' (HO557.out) (Kd.N_typed HO534.out) (by decide)) (Kd.N_typed HO547.out) (by decide)) BK535.out (by decide)) (fun k_ hk => ⟨hk.1.1.1.1.1.1.1.2, ⟨hk.1.1.1.1.1.1.2, ⟨hk.1.1.2, ⟨hk.1.2, ⟨hk.1.1.1.1.1.2, hk.2⟩⟩⟩⟩⟩))))) (Reps.one (show Kd.FK (Kd.slice 3 (Kd.int .i64)) _ _ y558 [.slice Ao43 y558.length co43] from (Kd.FK_slice_mk (Kd.R_reads' (Kd.R_mono (ok' := (fun k_ => some k_ ≠ (.slice Ao12 y526.length co12 : Value).ownBlock ∧ some k_ ≠ (.slice Ao15 t529.length co15 : Value).ownBlock ∧ some k_ ≠ (.slice Ao17 t532.length co17 : Value).ownBlock ∧ some k_ ≠ (.slice Ao30 y545.length co30 : Value).ownBlock ∧ some k_ ≠ (v549 : Value).ownBlock ∧ k_ ≠ gb535)) (Kd.R_types (Kd.R_apart' (Kd.R_apart' (HO560.out) (Kd.N_typed HO534.out) (by decide)) (Kd.N_typed HO547.out) (by decide)) BK535.out (by decide)) (fun k_ hk => ⟨hk.1.1.1.1.1.1.1.2, ⟨hk.1.1.1.1.1.1.2, ⟨hk.1.1.2, ⟨hk.1.2, ⟨hk.1.1.1.1.1.2, hk.2⟩⟩⟩⟩⟩))).2.1 (Kd.R_F (Kd.R_mono (ok' := (fun k_ => some k_ ≠ (.slice Ao12 y526.length co12 : Value).ownBlock ∧ some k_ ≠ (.slice Ao15 t529.length co15 : Value).ownBlock ∧ some k_ ≠ (.slice Ao17 t532.length co17 : Value).ownBlock ∧ some k_ ≠ (.slice Ao30 y545.length co30 : Value).ownBlock ∧ some k_ ≠ (v549 : Value).ownBlock ∧ k_ ≠ gb535)) (Kd.R_types (Kd.R_apart' (Kd.R_apart' (HO560.out) (Kd.N_typed HO534.out) (by decide)) (Kd.N_typed HO547.out) (by decide)) BK535.out (by decide)) (fun k_ hk => ⟨hk.1.1.1.1.1.1.1.2, ⟨hk.1.1.1.1.1.1.2, ⟨hk.1.1.2, ⟨hk.1.2, ⟨hk.1.1.1.1.1.2, hk.2⟩⟩⟩⟩⟩))))) (Reps.none _ _))))); intro v562 w44 ho45 hb hg_ hnew_; clear hg_ hnew_; (first | rw [← Ny561.out] at ho45 | (simp only [Int.reduceToNat] at ho45; rw [← Ny561.out] at ho45)); have n0_ := Aside0.mk (Kd.R_below (by (with_reducible repeat (first | apply Kd.R_alloc | apply Kd.R_drewN | apply Kd.R_drew)); exact HO528.out) hb); have n1_ := Aside0.mk (Kd.R_below (by (with_reducible repeat (first | apply Kd.R_alloc | apply Kd.R_drewN | apply Kd.R_drew)); exact HO531.out) hb); have n2_ := Aside0.mk (Kd.N_elder' (by (with_reducible repeat (first | apply Kd.N_alloc | apply Kd.N_drewN | apply Kd.N_drew)); exact HO534.out) (Kd.N_base ho45) hb); have n3_ := Aside0.mk (Kd.N_elder' (by (with_reducible repeat (first | apply Kd.N_alloc | apply Kd.N_drewN | apply Kd.N_drew)); exact HO547.out) (Kd.N_base ho45) hb); have n4_ := Aside0.mk (Kd.R_below (by (with_reducible repeat (first | apply Kd.R_alloc | apply Kd.R_drewN | apply Kd.R_drew)); exact HO550.out) hb); have n5_ := Aside0.mk (Kd.N_lower ho45 (below_size (by repeat (first | (with_reducible first | exact HB.out | apply below_alloc | apply pw_below_drewN | apply below_drew1 | refine below_set ?_ GE535.out) | exact HB.out)))); have n6_ := Aside0.mk (blk_below (g := gb535) (o := .cells #[.slice Ao15 t529.length co15, .slice Ao17 t532.length co17] 27 (0, 0)) (by (with_reducible repeat (first | refine blk_drewN ?_ _ | refine blk_drew ?_ | refine blk_alloc ?_ _)); exact BK535.out) hb); have n7_ := Aside0.mk (below_step (by repeat (first | (with_reducible first | exact HB.out | apply below_alloc | apply pw_below_drewN | apply below_drew1 | refine below_set ?_ GE535.out) | exact HB.out)) hb); clear HO528; clear HO531; clear HO534; clear HO547; clear HO550; clear BK535; clear HB; clear HO554; clear HO557; clear HO560; have HO528 := n0_; have HO531 := n1_; have HO534 := n2_; have HO547 := n3_; have HO550 := n4_; have HO563 := n5_; have BK535 := n6_; have HB := n7_; clear n0_ n1_ n2_ n3_ n4_ n5_ n6_ n7_; clear hb ho45; obtain ⟨Ao46, co46, eo46⟩ := Kd.N_slice HO563.out; subst eo46) | (go_at_call 40; (with_reducible refine (bfs_Legit.calls k _ _ t529 _ _ t532 _ _ y561 false _ ?side1 ?side2 ?side3 ?side4 ?side5 ?side6 A5.out).mono ?_); (case side1 => repeat (first | exact (Kd.R_reads' HO531.out).2.2 | (with_reducible refine Kd.C_alloc ?_ _) | (with_reducible refine Kd.C_drewN ?_ _) | (with_reducible refine Kd.C_drew ?_))); (case side2 => exact (Kd.R_reads' HO531.out).2.1); (case side3 => repeat (first | exact (Kd.N_reads' HO534.out).2.2 | (with_reducible refine Kd.C_alloc ?_ _) | (with_reducible refine Kd.C_drewN ?_ _) | (with_reducible refine Kd.C_drew ?_))); (case side4 => exact (Kd.N_reads' HO534.out).2.1); (case side5 => repeat (first | exact (Kd.N_reads' HO563.out).2.2 | (with_reducible refine Kd.C_alloc ?_ _) | (with_reducible refine Kd.C_drewN ?_ _) | (with_reducible refine Kd.C_drew ?_))); (case side6 => exact (Kd.N_reads' HO563.out).2.1); rintro e w47 ⟨rfl, hb⟩; have n0_ := Aside0.mk (Kd.R_below (by (with_reducible repeat (first | apply Kd.R_alloc | apply Kd.R_drewN | apply Kd.R_drew)); exact HO528.out) hb); have n1_ := Aside0.mk (Kd.R_below (by (with_reducible repeat (first | apply Kd.R_alloc | apply Kd.R_drewN | apply Kd.R_drew)); exact HO531.out) hb); have n2_ := Aside0.mk (Kd.N_below (by (with_reducible repeat (first | apply Kd.N_alloc | apply Kd.N_drewN | apply Kd.N_drew)); exact HO534.out) hb); have n3_ := Aside0.mk (Kd.N_below (by (with_reducible repeat (first | apply Kd.N_alloc | apply Kd.N_drewN | apply Kd.N_drew)); exact HO547.out) hb); have n4_ := Aside0.mk (Kd.R_below (by (with_reducible repeat (first | apply Kd.R_alloc | apply Kd.R_drewN | apply Kd.R_drew)); exact HO550.out) hb); have n5_ := Aside0.mk (Kd.N_below (by (with_reducible repeat (first | apply Kd.N_alloc | apply Kd.N_drewN | apply Kd.N_drew)); exact HO563.out) hb); have n6_ := Aside0.mk (blk_below (g := gb535) (o := .cells #[.slice Ao15 t529.length co15, .slice Ao17 t532.length co17] 27 (0, 0)) (by (with_reducible repeat (first | refine blk_drewN ?_ _ | refine blk_drew ?_ | refine blk_alloc ?_ _)); exact BK535.out) hb); have n7_ := Aside0.mk (below_step (by repeat (first | (with_reducible first | exact HB.out | apply below_alloc | apply pw_below_drewN | apply below_drew1 | refine below_set ?_ GE535.out) | exact HB.out)) hb); clear HO528; clear HO531; clear HO534; clear HO547; clear HO550; clear HO563; clear BK535; clear HB; have HO528 := n0_; have HO531 := n1_; have HO534 := n2_; have HO547 := n3_; have HO550 := n4_; have HO563 := n5_; have BK535 := n6_; have HB := n7_; clear n0_ n1_ n2_ n3_ n4_ n5_ n6_ n7_; (try clear hb); (try clear hb2); (try clear hk); (try clear hi); have hcz48_0 : w47.cell? ⟨gb535, 0, none⟩ = some (.slice Ao15 t529.length co15) := (blk_cell BK535.out 0).trans rfl; have hcz48_1 : w47.cell? ⟨gb535, 1, none⟩ = some (.slice Ao17 t532.length co17) := (blk_cell BK535.out 1).trans rfl; have hfz48_0 := blk_frozen BK535.out 0; have hfz48_1 := blk_frozen BK535.out 1) | (go_at_call 42; (with_reducible refine (bfs_Claim.calls k _ _ t529 _ _ t532 t565 t566 t567 t568 t569 _ ?side1 ?side2 ?side3 ?side4 A7.out).mono ?_); (case side1 => repeat (first | exact (Kd.R_reads' HO531.out).2.2 | (with_reducible refine Kd.C_alloc ?_ _) | (with_reducible refine Kd.C_drewN ?_ _) | (with_reducible refine Kd.C_drew ?_))); (case side2 => exact (Kd.R_reads' HO531.out).2.1); (case side3 => repeat (first | exact (Kd.N_reads' HO534.out).2.2 | (with_reducible refine Kd.C_alloc ?_ _) | (with_reducible refine Kd.C_drewN ?_ _) | (with_reducible refine Kd.C_drew ?_))); (case side4 => exact (Kd.N_reads' HO534.out).2.1); rintro e w49 ⟨rfl, hb⟩; have n0_ := Aside0.mk (Kd.R_below (by (with_reducible repeat (first | apply Kd.R_alloc | apply Kd.R_drewN | apply Kd.R_drew)); exact HO528.out) hb); have n1_ := Aside0.mk (Kd.R_below (by (with_reducible repeat (first | apply Kd.R_alloc | apply Kd.R_drewN | apply Kd.R_drew)); exact HO531.out) hb); have n2_ := Aside0.mk (Kd.N_below (by (with_reducible repeat (first | apply Kd.N_alloc | apply Kd.N_drewN | apply Kd.N_drew)); exact HO534.out) hb); have n3_ := Aside0.mk (Kd.N_below (by (with_reducible repeat (first | apply Kd.N_alloc | apply Kd.N_drewN | apply Kd.N_drew)); exact HO547.out) hb); have n4_ := Aside0.mk (Kd.R_below (by (with_reducible repeat (first | apply Kd.R_alloc | apply Kd.R_drewN | apply Kd.R_drew)); exact HO550.out) hb); have n5_ := Aside0.mk (Kd.N_below (by (with_reducible repeat (first | apply Kd.N_alloc | apply Kd.N_drewN | apply Kd.N_drew)); exact HO563.out) hb); have n6_ := Aside0.mk (blk_below (g := gb535) (o := .cells #[.slice Ao15 t529.length co15, .slice Ao17 t532.length co17] 27 (0, 0)) (by (with_reducible repeat (first | refine blk_drewN ?_ _ | refine blk_drew ?_ | refine blk_alloc ?_ _)); exact BK535.out) hb); have n7_ := Aside0.mk (below_step (by repeat (first | (with_reducible first | exact HB.out | apply below_alloc | apply pw_below_drewN | apply below_drew1 | refine below_set ?_ GE535.out) | exact HB.out)) hb); clear HO528; clear HO531; clear HO534; clear HO547; clear HO550; clear HO563; clear BK535; clear HB; have HO528 := n0_; have HO531 := n1_; have HO534 := n2_; have HO547 := n3_; have HO550 := n4_; have HO563 := n5_; have BK535 := n6_; have HB := n7_; clear n0_ n1_ n2_ n3_ n4_ n5_ n6_ n7_; (try clear hb); (try clear hb2); (try clear hk); (try clear hi)) | ((with_reducible refine gate_dst (N := 34) rfl ?_); (try (refine gate_guard (by rfl) ?_; dsimp only)); refine Kd.R_lit (Kd.int .i64) _ 3 ?hg (N := 34) ?hd (xs := ([(-1), 0, 1] : List Int)) (inner := [.int .i64 (-1), .int .i64 0, .int .i64 1]) (ok := fun _ => True) (okp := fun _ => True) ?hr ?hp (fun _ hk => hk) trivial (Below.refl _ _) (Nat.le_refl _) (by simp) ?_; (case hd => rfl); (case hg => rfl); (case hr => first | (go_simp; done) | (go_simp; rfl)); (case hp => exact (Reps.one (show Kd.M (Kd.int .i64) _ _ _ (-1) [.int .i64 (-1)] from rfl) (Reps.one (show Kd.M (Kd.int .i64) _ _ _ 0 [.int .i64 0] from rfl) (Reps.one (show Kd.M (Kd.int .i64) _ _ _ 1 [.int .i64 1] from rfl) (Reps.none _ _))))); intro v571 w50 ho51 hb hg_ hnew_; clear hg_ hnew_; (first | rw [← Ny570.out] at ho51 | (simp only [Int.reduceToNat] at ho51; rw [← Ny570.out] at ho51)); have n0_ := Aside0.mk (Kd.R_elder' (by (with_reducible repeat (first | apply Kd.R_alloc | apply Kd.R_drewN | apply Kd.R_drew)); exact HO528.out) (Kd.R_base ho51) hb); have n1_ := Aside0.mk (Kd.R_elder' (by (with_reducible repeat (first | apply Kd.R_alloc | apply Kd.R_drewN | apply Kd.R_drew)); exact HO531.out) (Kd.R_base ho51) hb); have n2_ := Aside0.mk (Kd.N_elder' (by (with_reducible repeat (first | apply Kd.N_alloc | apply Kd.N_drewN | apply Kd.N_drew)); exact HO534.out) (Kd.R_base ho51) hb); have n3_ := Aside0.mk (Kd.N_elder' (by (with_reducible repeat (first | apply Kd.N_alloc | apply Kd.N_drewN | apply Kd.N_drew)); exact HO547.out) (Kd.R_base ho51) hb); have n4_ := Aside0.mk (Kd.R_elder' (by (with_reducible repeat (first | apply Kd.R_alloc | apply Kd.R_drewN | apply Kd.R_drew)); exact HO550.out) (Kd.R_base ho51) hb); have n5_ := Aside0.mk (Kd.N_elder' (by (with_reducible repeat (first | apply Kd.N_alloc | apply Kd.N_drewN | apply Kd.N_drew)); exact HO563.out) (Kd.R_base ho51) hb); have n6_ := Aside0.mk (Kd.R_lower (Kd.R_new' (Kd.R_new' (Kd.R_new' ho51 (Kd.R_lt (by (with_reducible repeat (first | apply Kd.R_alloc | apply Kd.R_drewN | apply Kd.R_drew)); exact HO528.out))) (Kd.R_lt (by (with_reducible repeat (first | apply Kd.R_alloc | apply Kd.R_drewN | apply Kd.R_drew)); exact HO531.out))) (Kd.R_lt (by (with_reducible repeat (first | apply Kd.R_alloc | apply Kd.R_drewN | apply Kd.R_drew)); exact HO550.out))) (below_size (by repeat (first | (with_reducible first | exact HB.out | apply below_alloc | apply pw_below_drewN | apply below_drew1 | refine below_set ?_ GE535.out) | exact HB.out)))); have n7_ := Aside0.mk (blk_below (g := gb535) (o := .cells #[.slice Ao15 t529.length co15, .slice Ao17 t532.length co17] 27 (0, 0)) (by (with_reducible repeat (first | refine blk_drewN ?_ _ | refine blk_drew ?_ | refine blk_alloc ?_ _)); exact BK535.out) hb); have n8_ := Aside0.mk (below_step (by repeat (first | (with_reducible first | exact HB.out | apply below_alloc | apply pw_below_drewN | apply below_drew1 | refine below_set ?_ GE535.out) | exact HB.out)) hb); clear HO528; clear HO531; clear HO534; clear HO547; clear HO550; clear HO563; clear BK535; clear HB; have HO528 := n0_; have HO531 := n1_; have HO534 := n2_; have HO547 := n3_; have HO550 := n4_; have HO563 := n5_; have HO572 := n6_; have BK535 := n7_; have HB := n8_; clear n0_ n1_ n2_ n3_ n4_ n5_ n6_ n7_ n8_; clear hb ho51; obtain ⟨Ao52, co52, eo52⟩ := Kd.R_slice HO550.out; subst eo52; obtain ⟨Ao53, co53, eo53⟩ := Kd.R_slice HO572.out; subst eo53) | (go_at_call 44; (with_reducible refine (selfstablaw23_sameInts.calls k _ _ t548 _ _ y570 t573 _ ?side1 ?side2 ?side3 ?side4 A9.out).mono ?_); (case side1 => repeat (first | exact (Kd.R_reads' HO550.out).2.2 | (with_reducible refine Kd.C_alloc ?_ _) | (with_reducible refine Kd.C_drewN ?_ _) | (with_reducible refine Kd.C_drew ?_))); (case side2 => exact (Kd.R_reads' HO550.out).2.1); (case side3 => repeat (first | exact (Kd.R_reads' HO572.out).2.2 | (with_reducible refine Kd.C_alloc ?_ _) | (with_reducible refine Kd.C_drewN ?_ _) | (with_reducible refine Kd.C_drew ?_))); (case side4 => exact (Kd.R_reads' HO572.out).2.1); rintro e w' ⟨rfl, ⟨nd, rfl⟩⟩))
    go_ret
    exact ⟨by first | rfl | (simp [errW_none, errW_some] <;> rfl) | (simp [*, errW_none, errW_some] <;> rfl), by repeat (first | (with_reducible first | exact HB.out | apply below_alloc | apply pw_below_drewN | apply below_drew1 | refine below_set ?_ GE535.out) | exact HB.out)⟩
   ·
    rw [if_neg c8] at H
    exact absurd H (by simp)
 ·
  replace c4 := Bool.eq_false_iff.mpr c4
  subst c4
  have H1 : (none) = some r := by rw [if_neg (show ¬ (false = true) by decide)] at H; exact H
  clear H
  have H := H1
  clear H1
  exact absurd H (by simp)
end Go.Proofs.YthapikakneikbaaG
namespace Go.Proofs.YthapikakneikbaaG
open Go.RowKit Go.Proofs.YthapikakneikbaaW.PrintWords Go.Proofs.YthapikakneikbaaW.PrintLast Go.Proofs.YthapikakneikbaaW.PrintMore
attribute [local go_sem] max2_int min2_int max_two min_two max_three min_three max_four min_four   -- for this text's walks alone
set_option linter.unusedVariables false
set_option linter.unusedSimpArgs false
/-! ### selfstabref23_Fit: function 39 -/
def selfstabref23_Fit.f (k : Nat) (l0_0 : List Int) (l0_1 : List (List (S60))) : Option (Bool) := (selfstabref01_Connected.f k l0_0 l0_1).bind fun t595 => (some t595)
theorem selfstabref23_Fit.mono : ∀ a0 a1 k, LeO (selfstabref23_Fit.f k a0 a1) (selfstabref23_Fit.f (k + 1) a0 a1) := by
 intro a0 a1 k
 unfold selfstabref23_Fit.f
 repeat' first
   | (with_reducible exact selfstabref01_Connected.mono _ _ _)
   | (with_reducible exact LeO.refl _)
   | (with_reducible exact LeO.none _)
   | (with_reducible refine LeO.ite ?_ ?_)
   | (with_reducible refine LeO.bind ?_ (fun _ => ?_))
   | exact selfstabref01_Connected.mono _ _ _
   | exact LeO.none _
   | refine LeO.ite ?_ ?_
   | refine LeO.bind ?_ (fun _ => ?_)
set_option maxHeartbeats 8000000 in
set_option maxRecDepth 100000 in
theorem selfstabref23_Fit.calls (k : Nat) (A0_0 : Option Addr) (c0_0 : Nat) (l0_0 : List Int) (A0_1 : Option Addr) (c0_1 : Nat) (l0_1 : List (List (S60))) (r : Bool) (w : World) (hr0_0 : Kd.C (Kd.int .i64) w A0_0 l0_0.length l0_0) (hc0_0 : l0_0.length ≤ c0_0) (hr0_1 : Kd.C (Kd.slice 60 k60) w A0_1 l0_1.length l0_1) (hc0_1 : l0_1.length ≤ c0_1) (h : selfstabref23_Fit.f k l0_0 l0_1 = some r) :
  Calls Try.prog 39 #[.agg #[.slice A0_0 l0_0.length c0_0, .slice A0_1 l0_1.length c0_1]] w fun e w' => e = .returned (.bool r) ∧ Below w.heap.size w w' := by
 have hu27 := Try.underlying27
 have HR0_0 := Aside0.mk hr0_0
 have HC0_0 := Aside0.mk hc0_0
 clear hr0_0 hc0_0
 have HR0_1 := Aside0.mk hr0_1
 have HC0_1 := Aside0.mk hc0_1
 clear hr0_1 hc0_1
 have HB := Aside0.mk (Below.refl w.heap.size w)
 have H : ((selfstabref01_Connected.f k l0_0 l0_1).bind fun t595 => (some t595)) = some r := h
 clear h
 replace H := Option.bind_eq_some_iff.mp H
 obtain ⟨t595, A20, H⟩ := H
 replace H : (some t595) = some r := H
 have A2 := Aside0.mk A20
 clear A20
 obtain rfl := Option.some.inj H
 go_enter Try.func39, Try.ntmps39
 go_wp2_with (first | ((with_reducible refine gate_dst (N := 1) rfl ?_); refine box_event ?hg (N := 1) ?hd (cs := #[.slice A0_0 l0_0.length c0_0, .slice A0_1 l0_1.length c0_1]) (t := 27) ?hr ?_; (case hd => rfl); (case hg => rfl); (case hr => first | (go_simp; done) | (go_simp; rfl)); intro gb594 hg w3 hbox hb; have n0_ := Aside0.mk (below_step (by repeat (first | (with_reducible first | exact HB.out | apply below_alloc | apply pw_below_drewN | apply below_drew1) | exact HB.out)) hb); have n1_ := Aside0.mk (hbox); have n2_ := Aside0.mk ((by rw [hg]; exact (below_size (by repeat (first | (with_reducible first | exact HB.out | apply below_alloc | apply pw_below_drewN | apply below_drew1) | exact HB.out))) : w.heap.size ≤ gb594)); have n3_ := Aside0.mk ((by rw [hg]; exact (below_size (by repeat (first | (with_reducible first | exact HB.out | apply below_alloc | apply pw_below_drewN | apply below_drew1) | exact HB.out))) : w.heap.size ≤ gb594)); clear HB; have HB := n0_; have BK594 := n1_; have GW594 := n2_; have GE594 := n3_; clear n0_ n1_ n2_ n3_; clear hb hbox hg; have hcz4_0 : w3.cell? ⟨gb594, 0, none⟩ = some (.slice A0_0 l0_0.length c0_0) := (blk_cell BK594.out 0).trans rfl; have hcz4_1 : w3.cell? ⟨gb594, 1, none⟩ = some (.slice A0_1 l0_1.length c0_1) := (blk_cell BK594.out 1).trans rfl; have hfz4_0 := blk_frozen BK594.out 0; have hfz4_1 := blk_frozen BK594.out 1) | ((with_reducible refine gate_callee (f := 88) rfl ?_); refine goesL_ (some 4) rfl rfl Try.func88 (by kernel_rfl) rfl #[.agg #[.slice A0_0 l0_0.length c0_0, .slice A0_1 l0_1.length c0_1]] rfl (by (try simp only [List.map_toArray, List.map_cons, List.map_nil]); first | done | rfl | (simp only [List.length_drop, List.length_take]; rfl)) ?_; (with_reducible refine (selfstabref01_Connected.calls k _ _ l0_0 _ _ l0_1 t595 _ ?side1 ?side2 ?side3 ?side4 A2.out).mono ?_); (case side1 => repeat (first | exact (Kd.C_below HR0_0.out HB.out) | (with_reducible refine Kd.C_alloc ?_ _) | (with_reducible refine Kd.C_drewN ?_ _) | (with_reducible refine Kd.C_drew ?_))); (case side2 => exact HC0_0.out); (case side3 => repeat (first | exact (Kd.C_below HR0_1.out HB.out) | (with_reducible refine Kd.C_alloc ?_ _) | (with_reducible refine Kd.C_drewN ?_ _) | (with_reducible refine Kd.C_drew ?_))); (case side4 => exact HC0_1.out); rintro e w5 ⟨rfl, hb⟩; refine ⟨_, rfl, ?_⟩; have n0_ := Aside0.mk (blk_below (g := gb594) (o := .cells #[.slice A0_0 l0_0.length c0_0, .slice A0_1 l0_1.length c0_1] 27 (0, 0)) (by (with_reducible repeat (first | refine blk_drewN ?_ _ | refine blk_drew ?_ | refine blk_alloc ?_ _)); exact BK594.out) hb); have n1_ := Aside0.mk (below_step (by repeat (first | (with_reducible first | exact HB.out | apply below_alloc | apply pw_below_drewN | apply below_drew1 | refine below_set ?_ GE594.out) | exact HB.out)) hb); clear BK594; clear HB; have BK594 := n0_; have HB := n1_; clear n0_ n1_; (try clear hb); (try clear hb2); (try clear hk); (try clear hi)))
 go_ret
 exact ⟨by first | rfl | (simp [errW_none, errW_some] <;> rfl) | (simp [*, errW_none, errW_some] <;> rfl), by repeat (first | (with_reducible first | exact HB.out | apply below_alloc | apply pw_below_drewN | apply below_drew1 | refine below_set ?_ GE594.out) | exact HB.out)⟩
end Go.Proofs.YthapikakneikbaaG
namespace Go.Proofs.YthapikakneikbaaG
open Go.RowKit Go.Proofs.YthapikakneikbaaW.PrintWords Go.Proofs.YthapikakneikbaaW.PrintLast Go.Proofs.YthapikakneikbaaW.PrintMore
attribute [local go_sem] max2_int min2_int max_two min_two max_three min_three max_four min_four   -- for this text's walks alone
set_option linter.unusedVariables false
set_option linter.unusedSimpArgs false
/-! ### selfstabref23_Config: function 83 -/
def selfstabref23_Config.f (l0_0 : List Int) (l0_1 : List (List (S60))) (l1 : List (List Int)) (l2 : List (S51)) : Option (Bool) :=
 if l2.length ≤ 100 ∧ l2.all smallV = true then some (Go.Proofs.Ythapikakneikbaa.confB (toG l0_0 l0_1) l1 (l2.map toV)) else none
theorem selfstabref23_Config.calls (A0_0 : Option Addr) (c0_0 : Nat) (l0_0 : List Int) (A0_1 : Option Addr) (c0_1 : Nat) (l0_1 : List (List (S60))) (A1 : Option Addr) (c1 : Nat) (l1 : List (List Int)) (A2 : Option Addr) (c2 : Nat) (l2 : List (S51)) (r : Bool) (w : World) (hr0_0 : Kd.C (Kd.int .i64) w A0_0 l0_0.length l0_0) (hc0_0 : l0_0.length ≤ c0_0) (hr0_1 : Kd.C (Kd.slice 60 k60) w A0_1 l0_1.length l0_1) (hc0_1 : l0_1.length ≤ c0_1) (hr1 : Kd.C (Kd.slice 3 (Kd.int .i64)) w A1 l1.length l1) (hc1 : l1.length ≤ c1) (hr2 : Kd.C k51 w A2 l2.length l2) (hc2 : l2.length ≤ c2) (h : selfstabref23_Config.f l0_0 l0_1 l1 l2 = some r) :
  Calls Try.prog 83 #[.agg #[.slice A0_0 l0_0.length c0_0, .slice A0_1 l0_1.length c0_1], .slice A1 l1.length c1, .slice A2 l2.length c2] w fun e w' => e = .returned (.bool r) ∧ Below w.heap.size w w' := by
 unfold selfstabref23_Config.f at h
 by_cases hm : l2.length ≤ 100 ∧ l2.all smallV = true
 ·
  rw [if_pos hm] at h
  injection h with h
  subst h
  have hv := Go.Proofs.Ythapikakneikbaa.refconf_calls w A0_0 c0_0 A0_1 c0_1 (toG l0_0 l0_1) (isGraph hr0_0 hc0_0 hr0_1 hc0_1) A1 c1 l1 (C_conf hr1) A2 c2 (l2.map toV) (Br.var.C hr2) (by simpa using hm.1) (fun v hv => by
   obtain ⟨x, hx, rfl⟩ := List.mem_map.1 hv
   exact smallV_is (List.all_eq_true.1 hm.2 x hx))
  have e1 : (toG l0_0 l0_1).ports.length = l0_1.length := by simp [toG]
  have e2 : (l2.map toV).length = l2.length := by simp
  rw [e1, e2] at hv
  exact hv
 ·
  rw [if_neg hm] at h
  cases h
end Go.Proofs.YthapikakneikbaaG
namespace Go.Proofs.YthapikakneikbaaG
open Go.RowKit Go.Proofs.YthapikakneikbaaW.PrintWords Go.Proofs.YthapikakneikbaaW.PrintLast Go.Proofs.YthapikakneikbaaW.PrintMore
attribute [local go_sem] max2_int min2_int max_two min_two max_three min_three max_four min_four   -- for this text's walks alone
set_option linter.unusedVariables false
set_option linter.unusedSimpArgs false
/-! ### selfstabref23_Number: function 121 -/
def selfstabref23_Number.f (a0 : ByteArray) (a1 : Int) (a2 : Int) (a3 : Int) : Option (ByteArray × Int × Int × Int × Int × Int) := some (a0, 1, 0, a1, a2, a3)
set_option maxHeartbeats 8000000 in
set_option maxRecDepth 100000 in
theorem selfstabref23_Number.calls (a0 : ByteArray) (a1 : Int) (a2 : Int) (a3 : Int) (r1 : ByteArray) (r2 : Int) (r3 : Int) (r4 : Int) (r5 : Int) (r6 : Int) (w : World) (h : selfstabref23_Number.f a0 a1 a2 a3 = some (r1, r2, r3, r4, r5, r6)) :
  Calls Try.prog 121 #[.string a0, .int .i64 a1, .int .i64 a2, .int .i64 a3] w fun e w' => e = .returned (.agg #[.string r1, .int .i64 r2, .int .i64 r3, .int .i64 r4, .int .i64 r5, .int .i64 r6]) ∧ Below w.heap.size w w' := by
 have hu51 := Try.underlying51
 have HB := Aside0.mk (Below.refl w.heap.size w)
 have H : (some (a0, 1, 0, a1, a2, a3)) = some (r1, r2, r3, r4, r5, r6) := h
 clear h
 simp only [Option.some.injEq, Prod.mk.injEq] at H
 obtain ⟨rfl, rfl, rfl, rfl, rfl, rfl⟩ := H
 go_enter Try.func121, Try.ntmps121
 go_wp2_with (first | ((with_reducible refine gate_dst (N := 8) rfl ?_); refine box_event ?hg (N := 8) ?hd (cs := #[.string (⟨#[]⟩ : ByteArray), .int .i64 0, .int .i64 0, .int .i64 0, .int .i64 0, .int .i64 0]) (t := 51) ?hr ?_; (case hd => rfl); (case hg => rfl); (case hr => first | (go_simp; done) | (go_simp; rfl)); intro gb249 hg w5 hbox hb; have n0_ := Aside0.mk (below_step (by repeat (first | (with_reducible first | exact HB.out | apply below_alloc | apply pw_below_drewN | apply below_drew1) | exact HB.out)) hb); have n1_ := Aside0.mk (hbox); have n2_ := Aside0.mk ((by rw [hg]; exact (below_size (by repeat (first | (with_reducible first | exact HB.out | apply below_alloc | apply pw_below_drewN | apply below_drew1) | exact HB.out))) : w.heap.size ≤ gb249)); have n3_ := Aside0.mk ((by rw [hg]; exact (below_size (by repeat (first | (with_reducible first | exact HB.out | apply below_alloc | apply pw_below_drewN | apply below_drew1) | exact HB.out))) : w.heap.size ≤ gb249)); clear HB; have HB := n0_; have BK249 := n1_; have GW249 := n2_; have GE249 := n3_; clear n0_ n1_ n2_ n3_; clear hb hbox hg; have hcz6_0 : w5.cell? ⟨gb249, 0, none⟩ = some (.string (⟨#[]⟩ : ByteArray)) := (blk_cell BK249.out 0).trans rfl; have hcz6_1 : w5.cell? ⟨gb249, 1, none⟩ = some (.int .i64 0) := (blk_cell BK249.out 1).trans rfl; have hcz6_2 : w5.cell? ⟨gb249, 2, none⟩ = some (.int .i64 0) := (blk_cell BK249.out 2).trans rfl; have hcz6_3 : w5.cell? ⟨gb249, 3, none⟩ = some (.int .i64 0) := (blk_cell BK249.out 3).trans rfl; have hcz6_4 : w5.cell? ⟨gb249, 4, none⟩ = some (.int .i64 0) := (blk_cell BK249.out 4).trans rfl; have hcz6_5 : w5.cell? ⟨gb249, 5, none⟩ = some (.int .i64 0) := (blk_cell BK249.out 5).trans rfl; have hfz6_0 := blk_frozen BK249.out 0; have hfz6_1 := blk_frozen BK249.out 1; have hfz6_2 := blk_frozen BK249.out 2; have hfz6_3 := blk_frozen BK249.out 3; have hfz6_4 := blk_frozen BK249.out 4; have hfz6_5 := blk_frozen BK249.out 5))
 refine bodyPost_ret (results_cell_row rfl _ _ gb249 51 #[.string a0, .int .i64 1, .int .i64 0, .int .i64 a1, .int .i64 a2, .int .i64 a3] (0, 0) _ rfl (by (with_reducible repeat (first | refine blk_drewN ?_ _ | refine blk_drew ?_ | refine blk_alloc ?_ _)); refine blk_put (cs := #[.string a0, .int .i64 1, .int .i64 0, .int .i64 a1, .int .i64 a2, .int .i64 0]) ?_ 5 _ rfl; (with_reducible repeat (first | refine blk_drewN ?_ _ | refine blk_drew ?_ | refine blk_alloc ?_ _)); refine blk_put (cs := #[.string a0, .int .i64 1, .int .i64 0, .int .i64 a1, .int .i64 0, .int .i64 0]) ?_ 4 _ rfl; (with_reducible repeat (first | refine blk_drewN ?_ _ | refine blk_drew ?_ | refine blk_alloc ?_ _)); refine blk_put (cs := #[.string a0, .int .i64 1, .int .i64 0, .int .i64 0, .int .i64 0, .int .i64 0]) ?_ 3 _ rfl; (with_reducible repeat (first | refine blk_drewN ?_ _ | refine blk_drew ?_ | refine blk_alloc ?_ _)); refine blk_put (cs := #[.string a0, .int .i64 1, .int .i64 0, .int .i64 0, .int .i64 0, .int .i64 0]) ?_ 2 _ rfl; (with_reducible repeat (first | refine blk_drewN ?_ _ | refine blk_drew ?_ | refine blk_alloc ?_ _)); refine blk_put (cs := #[.string a0, .int .i64 0, .int .i64 0, .int .i64 0, .int .i64 0, .int .i64 0]) ?_ 1 _ rfl; (with_reducible repeat (first | refine blk_drewN ?_ _ | refine blk_drew ?_ | refine blk_alloc ?_ _)); refine blk_put (cs := #[.string (⟨#[]⟩ : ByteArray), .int .i64 0, .int .i64 0, .int .i64 0, .int .i64 0, .int .i64 0]) ?_ 0 _ rfl; (with_reducible repeat (first | refine blk_drewN ?_ _ | refine blk_drew ?_ | refine blk_alloc ?_ _)); exact BK249.out) Try.underlying51 rfl (by kernel_rfl)) rfl ?_
 exact ⟨by first | rfl | (simp [errW_none, errW_some] <;> rfl) | (simp [*, errW_none, errW_some] <;> rfl), by repeat (first | (with_reducible first | exact HB.out | apply below_alloc | apply pw_below_drewN | apply below_drew1 | refine below_set ?_ GE249.out) | exact HB.out)⟩
end Go.Proofs.YthapikakneikbaaG
namespace Go.Proofs.YthapikakneikbaaG
open Go.RowKit Go.Proofs.YthapikakneikbaaW.PrintWords Go.Proofs.YthapikakneikbaaW.PrintLast Go.Proofs.YthapikakneikbaaW.PrintMore
attribute [local go_sem] max2_int min2_int max_two min_two max_three min_three max_four min_four   -- for this text's walks alone
set_option linter.unusedVariables false
set_option linter.unusedSimpArgs false
/-! ### selfstabref23_Pointer: function 125 -/
def selfstabref23_Pointer.f (a0 : ByteArray) : Option (ByteArray × Int × Int × Int × Int × Int) := some (a0, 3, 0, 0, 0, 0)
set_option maxHeartbeats 8000000 in
set_option maxRecDepth 100000 in
theorem selfstabref23_Pointer.calls (a0 : ByteArray) (r1 : ByteArray) (r2 : Int) (r3 : Int) (r4 : Int) (r5 : Int) (r6 : Int) (w : World) (h : selfstabref23_Pointer.f a0 = some (r1, r2, r3, r4, r5, r6)) :
  Calls Try.prog 125 #[.string a0] w fun e w' => e = .returned (.agg #[.string r1, .int .i64 r2, .int .i64 r3, .int .i64 r4, .int .i64 r5, .int .i64 r6]) ∧ Below w.heap.size w w' := by
 have hu51 := Try.underlying51
 have HB := Aside0.mk (Below.refl w.heap.size w)
 have H : (some (a0, 3, 0, 0, 0, 0)) = some (r1, r2, r3, r4, r5, r6) := h
 clear h
 simp only [Option.some.injEq, Prod.mk.injEq] at H
 obtain ⟨rfl, rfl, rfl, rfl, rfl, rfl⟩ := H
 go_enter Try.func125, Try.ntmps125
 go_wp2_with (first | ((with_reducible refine gate_dst (N := 2) rfl ?_); refine box_event ?hg (N := 2) ?hd (cs := #[.string (⟨#[]⟩ : ByteArray), .int .i64 0, .int .i64 0, .int .i64 0, .int .i64 0, .int .i64 0]) (t := 51) ?hr ?_; (case hd => rfl); (case hg => rfl); (case hr => first | (go_simp; done) | (go_simp; rfl)); intro gb596 hg w2 hbox hb; have n0_ := Aside0.mk (below_step (by repeat (first | (with_reducible first | exact HB.out | apply below_alloc | apply pw_below_drewN | apply below_drew1) | exact HB.out)) hb); have n1_ := Aside0.mk (hbox); have n2_ := Aside0.mk ((by rw [hg]; exact (below_size (by repeat (first | (with_reducible first | exact HB.out | apply below_alloc | apply pw_below_drewN | apply below_drew1) | exact HB.out))) : w.heap.size ≤ gb596)); have n3_ := Aside0.mk ((by rw [hg]; exact (below_size (by repeat (first | (with_reducible first | exact HB.out | apply below_alloc | apply pw_below_drewN | apply below_drew1) | exact HB.out))) : w.heap.size ≤ gb596)); clear HB; have HB := n0_; have BK596 := n1_; have GW596 := n2_; have GE596 := n3_; clear n0_ n1_ n2_ n3_; clear hb hbox hg; have hcz3_0 : w2.cell? ⟨gb596, 0, none⟩ = some (.string (⟨#[]⟩ : ByteArray)) := (blk_cell BK596.out 0).trans rfl; have hcz3_1 : w2.cell? ⟨gb596, 1, none⟩ = some (.int .i64 0) := (blk_cell BK596.out 1).trans rfl; have hcz3_2 : w2.cell? ⟨gb596, 2, none⟩ = some (.int .i64 0) := (blk_cell BK596.out 2).trans rfl; have hcz3_3 : w2.cell? ⟨gb596, 3, none⟩ = some (.int .i64 0) := (blk_cell BK596.out 3).trans rfl; have hcz3_4 : w2.cell? ⟨gb596, 4, none⟩ = some (.int .i64 0) := (blk_cell BK596.out 4).trans rfl; have hcz3_5 : w2.cell? ⟨gb596, 5, none⟩ = some (.int .i64 0) := (blk_cell BK596.out 5).trans rfl; have hfz3_0 := blk_frozen BK596.out 0; have hfz3_1 := blk_frozen BK596.out 1; have hfz3_2 := blk_frozen BK596.out 2; have hfz3_3 := blk_frozen BK596.out 3; have hfz3_4 := blk_frozen BK596.out 4; have hfz3_5 := blk_frozen BK596.out 5))
 refine bodyPost_ret (results_cell_row rfl _ _ gb596 51 #[.string a0, .int .i64 3, .int .i64 0, .int .i64 0, .int .i64 0, .int .i64 0] (0, 0) _ rfl (by (with_reducible repeat (first | refine blk_drewN ?_ _ | refine blk_drew ?_ | refine blk_alloc ?_ _)); refine blk_put (cs := #[.string a0, .int .i64 3, .int .i64 0, .int .i64 0, .int .i64 0, .int .i64 0]) ?_ 5 _ rfl; (with_reducible repeat (first | refine blk_drewN ?_ _ | refine blk_drew ?_ | refine blk_alloc ?_ _)); refine blk_put (cs := #[.string a0, .int .i64 3, .int .i64 0, .int .i64 0, .int .i64 0, .int .i64 0]) ?_ 4 _ rfl; (with_reducible repeat (first | refine blk_drewN ?_ _ | refine blk_drew ?_ | refine blk_alloc ?_ _)); refine blk_put (cs := #[.string a0, .int .i64 3, .int .i64 0, .int .i64 0, .int .i64 0, .int .i64 0]) ?_ 3 _ rfl; (with_reducible repeat (first | refine blk_drewN ?_ _ | refine blk_drew ?_ | refine blk_alloc ?_ _)); refine blk_put (cs := #[.string a0, .int .i64 3, .int .i64 0, .int .i64 0, .int .i64 0, .int .i64 0]) ?_ 2 _ rfl; (with_reducible repeat (first | refine blk_drewN ?_ _ | refine blk_drew ?_ | refine blk_alloc ?_ _)); refine blk_put (cs := #[.string a0, .int .i64 0, .int .i64 0, .int .i64 0, .int .i64 0, .int .i64 0]) ?_ 1 _ rfl; (with_reducible repeat (first | refine blk_drewN ?_ _ | refine blk_drew ?_ | refine blk_alloc ?_ _)); refine blk_put (cs := #[.string (⟨#[]⟩ : ByteArray), .int .i64 0, .int .i64 0, .int .i64 0, .int .i64 0, .int .i64 0]) ?_ 0 _ rfl; (with_reducible repeat (first | refine blk_drewN ?_ _ | refine blk_drew ?_ | refine blk_alloc ?_ _)); exact BK596.out) Try.underlying51 rfl (by kernel_rfl)) rfl ?_
 exact ⟨by first | rfl | (simp [errW_none, errW_some] <;> rfl) | (simp [*, errW_none, errW_some] <;> rfl), by repeat (first | (with_reducible first | exact HB.out | apply below_alloc | apply pw_below_drewN | apply below_drew1 | refine below_set ?_ GE596.out) | exact HB.out)⟩
end Go.Proofs.YthapikakneikbaaG
namespace Go.Proofs.YthapikakneikbaaG
open Go.RowKit Go.Proofs.YthapikakneikbaaW.PrintWords Go.Proofs.YthapikakneikbaaW.PrintLast Go.Proofs.YthapikakneikbaaW.PrintMore
attribute [local go_sem] max2_int min2_int max_two min_two max_three min_three max_four min_four   -- for this text's walks alone
set_option linter.unusedVariables false
set_option linter.unusedSimpArgs false
/-! ### selfstabref23_Vars: function 92 -/
def selfstabref23_Vars.f  : Option ((List (S51))) := (selfstabref23_Number.f (⟨#[100]⟩ : ByteArray) 0 1 0).bind fun bt597 => ((selfstabref23_Pointer.f (⟨#[112]⟩ : ByteArray)).bind fun bt603 => (some (([(⟨bt597.1, bt597.2.1, bt597.2.2.1, bt597.2.2.2.1, bt597.2.2.2.2.1, bt597.2.2.2.2.2⟩ : S51), (⟨bt603.1, bt603.2.1, bt603.2.2.1, bt603.2.2.2.1, bt603.2.2.2.2.1, bt603.2.2.2.2.2⟩ : S51)] : List (S51)))))
set_option maxHeartbeats 8000000 in
set_option maxRecDepth 100000 in
theorem selfstabref23_Vars.calls  (r : List (S51)) (w : World) (h : selfstabref23_Vars.f  = some r) :
  Calls Try.prog 92 #[] w fun e w' => ∃ v0_ : Value, e = .returned (v0_) ∧ Kd.R k51 51 w' w.heap.size (fun _ => True) v0_ r ∧ Below w.heap.size w w' := by
 have HB := Aside0.mk (Below.refl w.heap.size w)
 have H : ((selfstabref23_Number.f (⟨#[100]⟩ : ByteArray) 0 1 0).bind fun bt597 => ((selfstabref23_Pointer.f (⟨#[112]⟩ : ByteArray)).bind fun bt603 => (some (([(⟨bt597.1, bt597.2.1, bt597.2.2.1, bt597.2.2.2.1, bt597.2.2.2.2.1, bt597.2.2.2.2.2⟩ : S51), (⟨bt603.1, bt603.2.1, bt603.2.2.1, bt603.2.2.2.1, bt603.2.2.2.2.1, bt603.2.2.2.2.2⟩ : S51)] : List (S51)))))) = some r := h
 clear h
 replace H := Option.bind_eq_some_iff.mp H
 obtain ⟨⟨t597, t598, t599, t600, t601, t602⟩, A10, H⟩ := H
 replace H : ((selfstabref23_Pointer.f (⟨#[112]⟩ : ByteArray)).bind fun bt603 => (some (([(⟨t597, t598, t599, t600, t601, t602⟩ : S51), (⟨bt603.1, bt603.2.1, bt603.2.2.1, bt603.2.2.2.1, bt603.2.2.2.2.1, bt603.2.2.2.2.2⟩ : S51)] : List (S51))))) = some r := H
 have A1 := Aside0.mk A10
 clear A10
 replace H := Option.bind_eq_some_iff.mp H
 obtain ⟨⟨t603, t604, t605, t606, t607, t608⟩, A20, H⟩ := H
 replace H : (some (([(⟨t597, t598, t599, t600, t601, t602⟩ : S51), (⟨t603, t604, t605, t606, t607, t608⟩ : S51)] : List (S51)))) = some r := H
 have A2 := Aside0.mk A20
 clear A20
 obtain ⟨y609, hy609⟩ : ∃ y_ : List (S51), y_ = (([(⟨t597, t598, t599, t600, t601, t602⟩ : S51), (⟨t603, t604, t605, t606, t607, t608⟩ : S51)] : List (S51))) := ⟨_, rfl⟩
 replace H : (some y609) = some r := by first | (rw [hy609]; with_reducible exact H) | (have H2_ := (Option.bind_some _ _).symm.trans H; rw [hy609]; with_reducible exact H2_) | (have H2_ := (Option.bind_some _ _).symm.trans H; with_reducible exact H2_) | with_reducible exact H | (rw [hy609]; exact H) | exact H
 have Ny609 := Aside0.mk hy609
 clear hy609
 obtain rfl := Option.some.inj H
 go_enter Try.func92, Try.ntmps92
 go_wp2_with (first | ((with_reducible refine gate_callee (f := 121) rfl ?_); refine goesL_ (some 1) rfl rfl Try.func121 (by kernel_rfl) rfl #[.string (⟨#[100]⟩ : ByteArray), .int .i64 0, .int .i64 1, .int .i64 0] rfl (by (try simp only [List.map_toArray, List.map_cons, List.map_nil]); first | done | rfl | (simp only [List.length_drop, List.length_take]; rfl)) ?_; (with_reducible refine (selfstabref23_Number.calls (⟨#[100]⟩ : ByteArray) 0 1 0 t597 t598 t599 t600 t601 t602 _ A1.out).mono ?_); rintro e w3 ⟨rfl, hb⟩; refine ⟨_, rfl, ?_⟩; have n0_ := Aside0.mk (below_step (by repeat (first | (with_reducible first | exact HB.out | apply below_alloc | apply pw_below_drewN | apply below_drew1) | exact HB.out)) hb); clear HB; have HB := n0_; clear n0_; (try clear hb); (try clear hb2); (try clear hk); (try clear hi)) | ((with_reducible refine gate_callee (f := 125) rfl ?_); refine goesL_ (some 2) rfl rfl Try.func125 (by kernel_rfl) rfl #[.string (⟨#[112]⟩ : ByteArray)] rfl (by (try simp only [List.map_toArray, List.map_cons, List.map_nil]); first | done | rfl | (simp only [List.length_drop, List.length_take]; rfl)) ?_; (with_reducible refine (selfstabref23_Pointer.calls (⟨#[112]⟩ : ByteArray) t603 t604 t605 t606 t607 t608 _ A2.out).mono ?_); rintro e w4 ⟨rfl, hb⟩; refine ⟨_, rfl, ?_⟩; have n0_ := Aside0.mk (below_step (by repeat (first | (with_reducible first | exact HB.out | apply below_alloc | apply pw_below_drewN | apply below_drew1) | exact HB.out)) hb); clear HB; have HB := n0_; clear n0_; (try clear hb); (try clear hb2); (try clear hk); (try clear hi)) | ((with_reducible refine gate_dst (N := 3) rfl ?_); refine Kd.R_lit k51 _ 51 ?hg (N := 3) ?hd (xs := ([(⟨t597, t598, t599, t600, t601, t602⟩ : S51), (⟨t603, t604, t605, t606, t607, t608⟩ : S51)] : List (S51))) (inner := [.string t597, .int .i64 t598, .int .i64 t599, .int .i64 t600, .int .i64 t601, .int .i64 t602, .string t603, .int .i64 t604, .int .i64 t605, .int .i64 t606, .int .i64 t607, .int .i64 t608]) (ok := fun _ => True) (okp := fun _ => True) ?hr ?hp (fun _ hk => hk) trivial (Below.refl _ _) (Nat.le_refl _) (by simp) ?_; (case hd => rfl); (case hg => rfl); (case hr => first | (go_simp; done) | (go_simp; rfl)); (case hp => exact (Reps.c6 (show Kd.M k51 _ _ _ (⟨t597, t598, t599, t600, t601, t602⟩ : S51) [.string t597, .int .i64 t598, .int .i64 t599, .int .i64 t600, .int .i64 t601, .int .i64 t602] from (k51_mkM _ _ _ (⟨t597, t598, t599, t600, t601, t602⟩ : S51) )) (Reps.c6 (show Kd.M k51 _ _ _ (⟨t603, t604, t605, t606, t607, t608⟩ : S51) [.string t603, .int .i64 t604, .int .i64 t605, .int .i64 t606, .int .i64 t607, .int .i64 t608] from (k51_mkM _ _ _ (⟨t603, t604, t605, t606, t607, t608⟩ : S51) )) (Reps.none _ _)))); intro v610 w5 ho6 hb hg_ hnew_; clear hg_ hnew_; (first | rw [← Ny609.out] at ho6 | (simp only [Int.reduceToNat] at ho6; rw [← Ny609.out] at ho6)); have n0_ := Aside0.mk (Kd.R_lower ho6 (below_size (by repeat (first | (with_reducible first | exact HB.out | apply below_alloc | apply pw_below_drewN | apply below_drew1) | exact HB.out)))); have n1_ := Aside0.mk (below_step (by repeat (first | (with_reducible first | exact HB.out | apply below_alloc | apply pw_below_drewN | apply below_drew1) | exact HB.out)) hb); clear HB; have HO611 := n0_; have HB := n1_; clear n0_ n1_; clear hb ho6))
 go_ret
 exact ⟨_, by first | rfl | (simp [errW_none, errW_some] <;> rfl) | (simp [*, errW_none, errW_some] <;> rfl), by (with_reducible repeat (first | apply Kd.R_alloc | apply Kd.R_drewN | apply Kd.R_drew)); exact HO611.out, by repeat (first | (with_reducible first | exact HB.out | apply below_alloc | apply pw_below_drewN | apply below_drew1) | exact HB.out)⟩
end Go.Proofs.YthapikakneikbaaG
