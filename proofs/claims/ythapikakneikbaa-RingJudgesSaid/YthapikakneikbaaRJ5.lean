/-
  Lemmas and walks for this claim, part 5: Gselfstabref29Privileged, Gselfstablaw29RingJudges, PRing, Open, Back.
-/
import Derived.KernelRfl
import Derived.ProofKit
import Derived.OpenShut
import Derived.ChangeOld
import Derived.Below
import Derived.Deep.Slices
import Derived.Test.YthapikakneikbaaRJ4
namespace Go.Proofs.YthapikakneikbaaG
open Go.RowKit Go.Proofs.YthapikakneikbaaW.PrintWords Go.Proofs.YthapikakneikbaaW.PrintLast Go.Proofs.YthapikakneikbaaW.PrintMore
attribute [local go_sem] max2_int min2_int max_two min_two max_three min_three max_four min_four   -- for this text's walks alone
set_option linter.unusedVariables false
set_option linter.unusedSimpArgs false
/-! ### selfstabref29_Privileged: function 28 -/
mutual
def selfstabref29_Privileged.j0 : Nat → List (List Int) → Bool → Option (Int)
 | 0, _, _ => none
 | k + 1, x1, x17 => if x17 = true then (some 0) else (if 0 < (x1.length : Int) then (if 0 < ((rd_L3 x1 0).length : Int) then (if 0 ≤ (wrap64 ((x1.length : Int) - 1)) then (if (wrap64 ((x1.length : Int) - 1)) < (x1.length : Int) then (if 0 < ((rd_L3 x1 (wrap64 ((x1.length : Int) - 1))).length : Int) then (if (rd (rd_L3 x1 0) 0) = (rd (rd_L3 x1 (wrap64 ((x1.length : Int) - 1))) 0) then (selfstabref29_Privileged.j1 k x1 1 (x1.length : Int)) else (selfstabref29_Privileged.j1 k x1 0 (x1.length : Int))) else (none)) else (none)) else (none)) else (none)) else (none))
def selfstabref29_Privileged.j1 : Nat → List (List Int) → Int → Int → Option (Int)
 | 0, _, _, _ => none
 | k + 1, x1, x5, x6 => selfstabref29_Privileged.l0 k x1 x5 x6 1
def selfstabref29_Privileged.l0 : Nat → List (List Int) → Int → Int → Int → Option (Int)
 | 0, _, _, _, _ => none
 | k + 1, x1, x5, x6, x7 => if x7 < x6 then (if 0 ≤ x7 then (if x7 < (x1.length : Int) then (if 0 < ((rd_L3 x1 x7).length : Int) then (if 0 ≤ (wrap64 (x7 - 1)) then (if (wrap64 (x7 - 1)) < (x1.length : Int) then (if 0 < ((rd_L3 x1 (wrap64 (x7 - 1))).length : Int) then (if (rd (rd_L3 x1 x7) 0) = (rd (rd_L3 x1 (wrap64 (x7 - 1))) 0) then (selfstabref29_Privileged.l0 k x1 x5 x6 (wrap64 (x7 + 1))) else (if 0 ≤ (IntKind.u64.wrap (x7)) then (selfstabref29_Privileged.l0 k x1 (Go.bits .or .u32 x5 (shl .u32 1 (IntKind.u64.wrap (x7)))) x6 (wrap64 (x7 + 1))) else (none))) else (none)) else (none)) else (none)) else (none)) else (none)) else (none)) else (some x5)
end
def selfstabref29_Privileged.f (k : Nat) (l0_0 : List Int) (l0_1 : List (List (S60))) (l1 : List (List Int)) : Option (Int) := (selfstabref29_Fit.f k l0_0 l0_1).bind fun t245 => (if t245 = true then ((selfstabref29_Vars.f).bind fun t246 => ((selfstabref23_Config.f l0_0 l0_1 l1 t246).bind fun t249 => (selfstabref29_Privileged.j0 k l1 (!t249)))) else (selfstabref29_Privileged.j0 k l1 true))
theorem selfstabref29_Privileged.mono_l : ∀ k, (∀ y0 y1, LeO (selfstabref29_Privileged.j0 k y0 y1) (selfstabref29_Privileged.j0 (k + 1) y0 y1)) ∧ (∀ y0 y1 y2, LeO (selfstabref29_Privileged.j1 k y0 y1 y2) (selfstabref29_Privileged.j1 (k + 1) y0 y1 y2)) ∧ (∀ y0 y1 y2 y3, LeO (selfstabref29_Privileged.l0 k y0 y1 y2 y3) (selfstabref29_Privileged.l0 (k + 1) y0 y1 y2 y3))
 | 0 => ⟨fun _ _ r h => by simp [selfstabref29_Privileged.j0] at h, fun _ _ _ r h => by simp [selfstabref29_Privileged.j1] at h, fun _ _ _ _ r h => by simp [selfstabref29_Privileged.l0] at h⟩
 | k + 1 => by
  obtain ⟨ih0, ih1, ih2⟩ := selfstabref29_Privileged.mono_l k
  refine ⟨?_, ?_, ?_⟩
  ·
   intro y0 y1
   unfold selfstabref29_Privileged.j0
   repeat' first
   | (with_reducible exact ih0 _ _)
   | (with_reducible exact ih1 _ _ _)
   | (with_reducible exact ih2 _ _ _ _)
   | (with_reducible exact selfstabref29_Fit.mono _ _ _)
   | (with_reducible exact LeO.refl _)
   | (with_reducible exact LeO.none _)
   | (with_reducible refine LeO.ite ?_ ?_)
   | (with_reducible refine LeO.bind ?_ (fun _ => ?_))
   | exact ih0 _ _
   | exact ih1 _ _ _
   | exact ih2 _ _ _ _
   | exact selfstabref29_Fit.mono _ _ _
   | exact LeO.none _
   | refine LeO.ite ?_ ?_
   | refine LeO.bind ?_ (fun _ => ?_)
  ·
   intro y0 y1 y2
   unfold selfstabref29_Privileged.j1
   repeat' first
   | (with_reducible exact ih0 _ _)
   | (with_reducible exact ih1 _ _ _)
   | (with_reducible exact ih2 _ _ _ _)
   | (with_reducible exact selfstabref29_Fit.mono _ _ _)
   | (with_reducible exact LeO.refl _)
   | (with_reducible exact LeO.none _)
   | (with_reducible refine LeO.ite ?_ ?_)
   | (with_reducible refine LeO.bind ?_ (fun _ => ?_))
   | exact ih0 _ _
   | exact ih1 _ _ _
   | exact ih2 _ _ _ _
   | exact selfstabref29_Fit.mono _ _ _
   | exact LeO.none _
   | refine LeO.ite ?_ ?_
   | refine LeO.bind ?_ (fun _ => ?_)
  ·
   intro y0 y1 y2 y3
   unfold selfstabref29_Privileged.l0
   repeat' first
   | (with_reducible exact ih0 _ _)
   | (with_reducible exact ih1 _ _ _)
   | (with_reducible exact ih2 _ _ _ _)
   | (with_reducible exact selfstabref29_Fit.mono _ _ _)
   | (with_reducible exact LeO.refl _)
   | (with_reducible exact LeO.none _)
   | (with_reducible refine LeO.ite ?_ ?_)
   | (with_reducible refine LeO.bind ?_ (fun _ => ?_))
   | exact ih0 _ _
   | exact ih1 _ _ _
   | exact ih2 _ _ _ _
   | exact selfstabref29_Fit.mono _ _ _
   | exact LeO.none _
   | refine LeO.ite ?_ ?_
   | refine LeO.bind ?_ (fun _ => ?_)
theorem selfstabref29_Privileged.mono : ∀ a0 a1 a2 k, LeO (selfstabref29_Privileged.f k a0 a1 a2) (selfstabref29_Privileged.f (k + 1) a0 a1 a2) := by
 intro a0 a1 a2 k
 obtain ⟨ih0, ih1, ih2⟩ := selfstabref29_Privileged.mono_l k
 unfold selfstabref29_Privileged.f
 repeat' first
   | (with_reducible exact ih0 _ _)
   | (with_reducible exact ih1 _ _ _)
   | (with_reducible exact ih2 _ _ _ _)
   | (with_reducible exact selfstabref29_Fit.mono _ _ _)
   | (with_reducible exact LeO.refl _)
   | (with_reducible exact LeO.none _)
   | (with_reducible refine LeO.ite ?_ ?_)
   | (with_reducible refine LeO.bind ?_ (fun _ => ?_))
   | exact ih0 _ _
   | exact ih1 _ _ _
   | exact ih2 _ _ _ _
   | exact selfstabref29_Fit.mono _ _ _
   | exact LeO.none _
   | refine LeO.ite ?_ ?_
   | refine LeO.bind ?_ (fun _ => ?_)
def selfstabref29_Privileged.T1 : Bool × List (List Nat × List Nat) := (true, [([], []), ([0], [0]), ([1], [1]), ([2, 1], [2]), ([3], [3]), ([3], [3]), ([3, 3], [3]), ([4, 5, 6, 6, 3], [3, 4, 5, 6]), ([7, 3], [3, 7]), ([3, 8], [3, 8])])
def selfstabref29_Privileged.B1 : List Nat := [0, 1, 3, 7, 15, 15, 15, 127, 255, 511]
theorem selfstabref29_Privileged.tab1 : rtab .any (opsOf Try.f28 1) = selfstabref29_Privileged.T1 := by kernel_rfl
theorem selfstabref29_Privileged.bits1 : waitsOk selfstabref29_Privileged.T1.2 selfstabref29_Privileged.B1 = true := by kernel_rfl
def selfstabref29_Privileged.T4 : Bool × List (List Nat × List Nat) := (true, [([], []), ([0], [0]), ([1], [1]), ([2], [2]), ([3], [3]), ([], []), ([], []), ([6], [6]), ([5, 7], [5, 7]), ([8], [8]), ([9], [9]), ([10], [10]), ([4, 11], [4, 11])])
def selfstabref29_Privileged.B4 : List Nat := [0, 1, 3, 7, 15, 0, 0, 64, 224, 480, 992, 2016, 4095]
theorem selfstabref29_Privileged.tab4 : rtab .any (opsOf Try.f28 4) = selfstabref29_Privileged.T4 := by kernel_rfl
theorem selfstabref29_Privileged.bits4 : waitsOk selfstabref29_Privileged.T4.2 selfstabref29_Privileged.B4 = true := by kernel_rfl
def selfstabref29_Privileged.T9 : Bool × List (List Nat × List Nat) := (true, [([], []), ([], []), ([0, 1], [0, 1]), ([2], [2]), ([3], [3]), ([4], [4]), ([], []), ([], []), ([7], [7]), ([6, 8], [6, 8]), ([9], [9]), ([10], [10]), ([11], [11]), ([5, 12], [5, 12])])
def selfstabref29_Privileged.B9 : List Nat := [0, 0, 3, 7, 15, 31, 0, 0, 128, 448, 960, 1984, 4032, 8191]
theorem selfstabref29_Privileged.tab9 : rtab .any (opsOf Try.f28 9) = selfstabref29_Privileged.T9 := by kernel_rfl
theorem selfstabref29_Privileged.bits9 : waitsOk selfstabref29_Privileged.T9.2 selfstabref29_Privileged.B9 = true := by kernel_rfl
set_option maxHeartbeats 8000000 in
set_option maxRecDepth 100000 in
theorem selfstabref29_Privileged.calls (k : Nat) (A0_0 : Option Addr) (c0_0 : Nat) (l0_0 : List Int) (A0_1 : Option Addr) (c0_1 : Nat) (l0_1 : List (List (S60))) (A1 : Option Addr) (c1 : Nat) (l1 : List (List Int)) (r : Int) (w : World) (hr0_0 : Kd.C (Kd.int .i64) w A0_0 l0_0.length l0_0) (hc0_0 : l0_0.length ≤ c0_0) (hr0_1 : Kd.C (Kd.slice 60 k60) w A0_1 l0_1.length l0_1) (hc0_1 : l0_1.length ≤ c0_1) (hr1 : Kd.C (Kd.slice 3 (Kd.int .i64)) w A1 l1.length l1) (hc1 : l1.length ≤ c1) (h : selfstabref29_Privileged.f k l0_0 l0_1 l1 = some r) :
  Calls Try.prog 28 #[.agg #[.slice A0_0 l0_0.length c0_0, .slice A0_1 l0_1.length c0_1], .slice A1 l1.length c1] w fun e w' => e = .returned (.int .u32 r) ∧ Below w.heap.size w w' := by
 have hu27 := Try.underlying27
 have HR0_0 := Aside0.mk hr0_0
 have HC0_0 := Aside0.mk hc0_0
 clear hr0_0 hc0_0
 have HR0_1 := Aside0.mk hr0_1
 have HC0_1 := Aside0.mk hc0_1
 clear hr0_1 hc0_1
 have HR1 := Aside0.mk hr1
 have HC1 := Aside0.mk hc1
 clear hr1 hc1
 have HB := Aside0.mk (Below.refl w.heap.size w)
 have H : ((selfstabref29_Fit.f k l0_0 l0_1).bind fun t245 => (if t245 = true then ((selfstabref29_Vars.f).bind fun t246 => ((selfstabref23_Config.f l0_0 l0_1 l1 t246).bind fun t249 => (selfstabref29_Privileged.j0 k l1 (!t249)))) else (selfstabref29_Privileged.j0 k l1 true))) = some r := h
 clear h
 have HC3 := Aside0.mk H
 clear H
 go_enter Try.func28, Try.ntmps28
 go_upto_region 1 with (first | ((with_reducible refine gate_dst (N := 2) rfl ?_); refine box_event ?hg (N := 2) ?hd (cs := #[.slice A0_0 l0_0.length c0_0, .slice A0_1 l0_1.length c0_1]) (t := 27) ?hr ?_; (case hd => rfl); (case hg => rfl); (case hr => first | (go_simp; done) | (go_simp; rfl)); intro gb244 hg w4 hbox hb; have n0_ := Aside0.mk (below_step (by repeat (first | (with_reducible first | exact HB.out | apply below_alloc | apply pw_below_drewN | apply below_drew1) | exact HB.out)) hb); have n1_ := Aside0.mk (hbox); have n2_ := Aside0.mk ((by rw [hg]; exact (below_size (by repeat (first | (with_reducible first | exact HB.out | apply below_alloc | apply pw_below_drewN | apply below_drew1) | exact HB.out))) : w.heap.size ≤ gb244)); have n3_ := Aside0.mk ((by rw [hg]; exact (below_size (by repeat (first | (with_reducible first | exact HB.out | apply below_alloc | apply pw_below_drewN | apply below_drew1) | exact HB.out))) : w.heap.size ≤ gb244)); clear HB; have HB := n0_; have BK244 := n1_; have GW244 := n2_; have GE244 := n3_; clear n0_ n1_ n2_ n3_; clear hb hbox hg))
 (try simp only [Act.put, List.setIfInBounds_toArray, List.set_cons_zero, List.set_cons_succ])
 go_cut [17] (fun v17 wc => ∃ (kq : Nat) (x17_2 : Bool), v17 = .bool x17_2 ∧ Aside0 (selfstabref29_Privileged.j0 kq l1 x17_2 = some r) ∧ Aside0 (kq ≤ k) ∧ Aside0 (wc.heap[gb244]? = some (.cells #[(.slice A0_0 l0_0.length c0_0), (.slice A0_1 l0_1.length c0_1)] 27 (0, 0))) ∧ Aside0 (Below w.heap.size w wc))
 case first =>
  have H := HC3.out
  clear HC3
  replace H := Option.bind_eq_some_iff.mp H
  obtain ⟨t245, A50, H⟩ := H
  replace H : (if t245 = true then ((selfstabref29_Vars.f).bind fun t246 => ((selfstabref23_Config.f l0_0 l0_1 l1 t246).bind fun t249 => (selfstabref29_Privileged.j0 k l1 (!t249)))) else (selfstabref29_Privileged.j0 k l1 true)) = some r := H
  have A5 := Aside0.mk A50
  clear A50
  by_cases c6 : t245 = true
  ·
   subst c6
   have H1 : ((selfstabref29_Vars.f).bind fun t246 => ((selfstabref23_Config.f l0_0 l0_1 l1 t246).bind fun t249 => (selfstabref29_Privileged.j0 k l1 (!t249)))) = some r := by rw [if_pos rfl] at H; exact H
   clear H
   have H := H1
   clear H1
   replace H := Option.bind_eq_some_iff.mp H
   obtain ⟨t246, A70, H⟩ := H
   replace H : ((selfstabref23_Config.f l0_0 l0_1 l1 t246).bind fun t249 => (selfstabref29_Privileged.j0 k l1 (!t249))) = some r := H
   have A7 := Aside0.mk A70
   clear A70
   replace H := Option.bind_eq_some_iff.mp H
   obtain ⟨t249, A80, H⟩ := H
   replace H : (selfstabref29_Privileged.j0 k l1 (!t249)) = some r := H
   have A8 := Aside0.mk A80
   clear A80
   have H' := Aside0.mk H
   clear H
   try go_wp2
   have n0_ := Aside0.mk (blk_drew BK244.out)
   have n1_ := Aside0.mk (below_drew1 HB.out)
   clear BK244
   clear HB
   have BK244 := n0_
   have HB := n1_
   clear n0_ n1_
   refine start_ (n := 10) (S := fun w' => w'.cell? ⟨gb244, 0, none⟩ = some (.slice A0_0 l0_0.length c0_0) ∧ w'.cell? ⟨gb244, 1, none⟩ = some (.slice A0_1 l0_1.length c0_1)) (ds := []) #[false, false, false, false, false, false, false, false, false, false] (by kernel_rfl) rfl rfl ⟨(blk_cell BK244.out 0).trans rfl, (blk_cell BK244.out 1).trans rfl⟩ (fun hHeld => ?_); refine with_tabW selfstabref29_Privileged.tab1 selfstabref29_Privileged.bits1 (fun HT_ HW_ => ?_)
   generalize w4.drew = w9 at BK244 HB hHeld ⊢
   refine take_ (i := 0) (N := some 8) (v := ?_) (a' := ?_) #[true, false, false, false, false, false, false, false, false, false] rfl rfl (take_ofW HT_.out HW_.out (by kernel_rfl)) (fun _ _ _ h => h) (Or.inl ⟨by rfl, ?_⟩) hHeld ?_ ?_
   rotate_left
   ·
    rintro w' ⟨s0, s1⟩
    go_simp
    with_reducible rfl
   rotate_left
   ·
    simp only [Act.put, List.setIfInBounds_toArray, List.set_cons_zero, List.set_cons_succ, i64_w, i32_w]
    rfl
   refine one_ (i := 1) (N := some 9) #[true, true, false, false, false, false, false, false, false, false] rfl rfl (one_of HT_.out (by kernel_rfl)) (by decide) (fun K hK => ?_)
   refine goes_ Try.func22 (by kernel_rfl) rfl #[.agg #[.slice A0_0 l0_0.length c0_0, .slice A0_1 l0_1.length c0_1]] (by rfl) rfl rfl (by (try simp only [List.map_toArray, List.map_cons, List.map_nil]); first | done | rfl | (simp only [List.length_drop, List.length_take]; rfl)) ?_
   with_reducible refine (selfstabref29_Fit.calls k _ _ l0_0 _ _ l0_1 true _ ?side1 ?side2 ?side3 ?side4 A5.out).mono ?_
   (case side1 => repeat (first | exact (Kd.C_below HR0_0.out HB.out) | (with_reducible refine Kd.C_alloc ?_ _) | (with_reducible refine Kd.C_drewN ?_ _) | (with_reducible refine Kd.C_drew ?_)))
   (case side2 => exact HC0_0.out)
   (case side3 => repeat (first | exact (Kd.C_below HR0_1.out HB.out) | (with_reducible refine Kd.C_alloc ?_ _) | (with_reducible refine Kd.C_drewN ?_ _) | (with_reducible refine Kd.C_drew ?_)))
   (case side4 => exact HC0_1.out)
   rintro e w10 ⟨rfl, hb⟩
   refine ⟨_, rfl, ?_⟩
   have n0_ := Aside0.mk (blk_below (g := gb244) (o := .cells #[.slice A0_0 l0_0.length c0_0, .slice A0_1 l0_1.length c0_1] 27 (0, 0)) (by (with_reducible repeat (first | refine blk_drewN ?_ _ | refine blk_drew ?_ | refine blk_alloc ?_ _)); exact BK244.out) hb)
   have n1_ := Aside0.mk (below_step (by repeat (first | (with_reducible first | exact HB.out | apply below_alloc | apply pw_below_drewN | apply below_drew1 | refine below_set ?_ GE244.out) | exact HB.out)) hb)
   clear BK244
   clear HB
   have BK244 := n0_
   have HB := n1_
   clear n0_ n1_
   (try clear hb)
   (try clear hb2)
   (try clear hk)
   (try clear hi)
   refine hK.out _ _ ⟨(blk_cell BK244.out 0).trans rfl, (blk_cell BK244.out 1).trans rfl⟩ (fun hHeld => ?_)
   clear hK K
   refine norm_ (a' := ?_) ?_ ?_
   rotate_left
   ·
    show Act.put _ (some 9) _ = _
    simp only [Act.put, List.setIfInBounds_toArray, List.set_cons_zero, List.set_cons_succ, i64_w, i32_w]
    rfl
   refine pure_ (i := 2) (N := some 10) (v := ?_) (a' := ?_) #[true, true, true, false, false, false, false, false, false, false] rfl rfl (any_of HT_.out (by kernel_rfl)) (fun _ _ _ h => h) (Or.inl ⟨by rfl, ?_⟩) ?_ ?_
   rotate_left
   ·
    intro w'
    go_simp
    with_reducible rfl
   rotate_left
   ·
    simp only [Act.put, List.setIfInBounds_toArray, List.set_cons_zero, List.set_cons_succ, i64_w, i32_w]
    rfl
   refine pure_ (i := 3) (N := some 11) (v := ?_) (a' := ?_) #[true, true, true, true, false, false, false, false, false, false] rfl rfl (any_of HT_.out (by kernel_rfl)) (fun _ _ _ h => h) (Or.inl ⟨by rfl, ?_⟩) ?_ ?_
   rotate_left
   ·
    intro w'
    go_simp
    with_reducible rfl
   rotate_left
   ·
    simp only [Act.put, List.setIfInBounds_toArray, List.set_cons_zero, List.set_cons_succ, i64_w, i32_w]
    rfl
   refine pure_ (i := 5) (N := some 13) (v := ?_) (a' := ?_) #[true, true, true, true, false, true, false, false, false, false] rfl rfl (any_of HT_.out (by kernel_rfl)) (fun _ _ _ h => h) (Or.inl ⟨by rfl, ?_⟩) ?_ ?_
   rotate_left
   ·
    intro w'
    go_simp
    with_reducible rfl
   rotate_left
   ·
    simp only [Act.put, List.setIfInBounds_toArray, List.set_cons_zero, List.set_cons_succ, i64_w, i32_w]
    rfl
   refine take_ (i := 4) (N := some 12) (v := ?_) (a' := ?_) #[true, true, true, true, true, true, false, false, false, false] rfl rfl (take_ofW HT_.out HW_.out (by kernel_rfl)) (fun _ _ _ h => h) (Or.inl ⟨by rfl, ?_⟩) hHeld ?_ ?_
   rotate_left
   ·
    rintro w' ⟨s0, s1⟩
    go_simp
    with_reducible rfl
   rotate_left
   ·
    simp only [Act.put, List.setIfInBounds_toArray, List.set_cons_zero, List.set_cons_succ, i64_w, i32_w]
    rfl
   refine one_ (i := 6) (N := some 14) #[true, true, true, true, true, true, true, false, false, false] rfl rfl (one_of HT_.out (by kernel_rfl)) (by decide) (fun K hK => ?_)
   refine goes_ Try.func84 (by kernel_rfl) rfl #[] (by rfl) rfl rfl (by (try simp only [List.map_toArray, List.map_cons, List.map_nil]); first | done | rfl | (simp only [List.length_drop, List.length_take]; rfl)) ?_
   with_reducible refine (selfstabref29_Vars.calls  t246 _ A7.out).mono ?_
   rintro e w11 ⟨v247, rfl, ho0, hb⟩
   refine ⟨_, rfl, ?_⟩
   have n0_ := Aside0.mk (Kd.R_lower ho0 (below_size (by repeat (first | (with_reducible first | exact HB.out | apply below_alloc | apply pw_below_drewN | apply below_drew1 | refine below_set ?_ GE244.out) | exact HB.out))))
   have n1_ := Aside0.mk (blk_below (g := gb244) (o := .cells #[.slice A0_0 l0_0.length c0_0, .slice A0_1 l0_1.length c0_1] 27 (0, 0)) (by (with_reducible repeat (first | refine blk_drewN ?_ _ | refine blk_drew ?_ | refine blk_alloc ?_ _)); exact BK244.out) hb)
   have n2_ := Aside0.mk (below_step (by repeat (first | (with_reducible first | exact HB.out | apply below_alloc | apply pw_below_drewN | apply below_drew1 | refine below_set ?_ GE244.out) | exact HB.out)) hb)
   clear BK244
   clear HB
   have HO248 := n0_
   have BK244 := n1_
   have HB := n2_
   clear n0_ n1_ n2_
   (try clear hb)
   (try clear hb2)
   (try clear hk)
   (try clear hi)
   (try clear ho0)
   obtain ⟨Ao12, co12, eo12⟩ := Kd.R_slice HO248.out
   (first | subst eo12 | (injection eo12 with f1_ f2_ f3_; have f4_ := f1_.symm; have f5_ := f3_.symm; clear f1_ f2_ f3_; subst f4_; subst f5_))
   refine hK.out _ _ ⟨(blk_cell BK244.out 0).trans rfl, (blk_cell BK244.out 1).trans rfl⟩ (fun hHeld => ?_)
   clear hK K
   refine norm_ (a' := ?_) ?_ ?_
   rotate_left
   ·
    show Act.put _ (some 14) _ = _
    simp only [Act.put, List.setIfInBounds_toArray, List.set_cons_zero, List.set_cons_succ, i64_w, i32_w]
    rfl
   refine one_ (i := 7) (N := some 15) #[true, true, true, true, true, true, true, true, false, false] rfl rfl (one_of HT_.out (by kernel_rfl)) (by decide) (fun K hK => ?_)
   refine goes_ Try.func83 (by kernel_rfl) rfl #[.agg #[.slice A0_0 l0_0.length c0_0, .slice A0_1 l0_1.length c0_1], .slice A1 l1.length c1, .slice Ao12 t246.length co12] (by rfl) rfl rfl (by (try simp only [List.map_toArray, List.map_cons, List.map_nil]); first | done | rfl | (simp only [List.length_drop, List.length_take]; rfl)) ?_
   with_reducible refine (selfstabref23_Config.calls _ _ l0_0 _ _ l0_1 _ _ l1 _ _ t246 t249 _ ?side1 ?side2 ?side3 ?side4 ?side5 ?side6 ?side7 ?side8 A8.out).mono ?_
   (case side1 => repeat (first | exact (Kd.C_below HR0_0.out HB.out) | (with_reducible refine Kd.C_alloc ?_ _) | (with_reducible refine Kd.C_drewN ?_ _) | (with_reducible refine Kd.C_drew ?_)))
   (case side2 => exact HC0_0.out)
   (case side3 => repeat (first | exact (Kd.C_below HR0_1.out HB.out) | (with_reducible refine Kd.C_alloc ?_ _) | (with_reducible refine Kd.C_drewN ?_ _) | (with_reducible refine Kd.C_drew ?_)))
   (case side4 => exact HC0_1.out)
   (case side5 => repeat (first | exact (Kd.C_below HR1.out HB.out) | (with_reducible refine Kd.C_alloc ?_ _) | (with_reducible refine Kd.C_drewN ?_ _) | (with_reducible refine Kd.C_drew ?_)))
   (case side6 => exact HC1.out)
   (case side7 => repeat (first | exact (Kd.R_reads' HO248.out).2.2 | (with_reducible refine Kd.C_alloc ?_ _) | (with_reducible refine Kd.C_drewN ?_ _) | (with_reducible refine Kd.C_drew ?_)))
   (case side8 => exact (Kd.R_reads' HO248.out).2.1)
   rintro e w13 ⟨rfl, hb⟩
   refine ⟨_, rfl, ?_⟩
   have n0_ := Aside0.mk (Kd.R_below (by (with_reducible repeat (first | apply Kd.R_alloc | apply Kd.R_drewN | apply Kd.R_drew)); exact HO248.out) hb)
   have n1_ := Aside0.mk (blk_below (g := gb244) (o := .cells #[.slice A0_0 l0_0.length c0_0, .slice A0_1 l0_1.length c0_1] 27 (0, 0)) (by (with_reducible repeat (first | refine blk_drewN ?_ _ | refine blk_drew ?_ | refine blk_alloc ?_ _)); exact BK244.out) hb)
   have n2_ := Aside0.mk (below_step (by repeat (first | (with_reducible first | exact HB.out | apply below_alloc | apply pw_below_drewN | apply below_drew1 | refine below_set ?_ GE244.out) | exact HB.out)) hb)
   clear HO248
   clear BK244
   clear HB
   have HO248 := n0_
   have BK244 := n1_
   have HB := n2_
   clear n0_ n1_ n2_
   (try clear hb)
   (try clear hb2)
   (try clear hk)
   (try clear hi)
   refine hK.out _ _ ⟨(blk_cell BK244.out 0).trans rfl, (blk_cell BK244.out 1).trans rfl⟩ (fun hHeld => ?_)
   clear hK K
   refine norm_ (a' := ?_) ?_ ?_
   rotate_left
   ·
    show Act.put _ (some 15) _ = _
    simp only [Act.put, List.setIfInBounds_toArray, List.set_cons_zero, List.set_cons_succ, i64_w, i32_w]
    rfl
   refine pure_ (i := 8) (N := some 16) (v := ?_) (a' := ?_) #[true, true, true, true, true, true, true, true, true, false] rfl rfl (any_of HT_.out (by kernel_rfl)) (fun _ _ _ h => h) (Or.inl ⟨by rfl, ?_⟩) ?_ ?_
   rotate_left
   ·
    intro w'
    go_simp
    with_reducible rfl
   rotate_left
   ·
    simp only [Act.put, List.setIfInBounds_toArray, List.set_cons_zero, List.set_cons_succ, i64_w, i32_w]
    rfl
   refine pure_ (i := 9) (N := some 17) (v := ?_) (a' := ?_) #[true, true, true, true, true, true, true, true, true, true] rfl rfl (any_of HT_.out (by kernel_rfl)) (fun _ _ _ h => h) (Or.inl ⟨by rfl, ?_⟩) ?_ ?_
   rotate_left
   ·
    intro w'
    go_simp
    with_reducible rfl
   rotate_left
   ·
    simp only [Act.put, List.setIfInBounds_toArray, List.set_cons_zero, List.set_cons_succ, i64_w, i32_w]
    rfl
   refine done_ (done_of HT_.out (by kernel_rfl)) ?_
   try go_wp2
   go_meet
   case rel => exact ⟨_, (!t249), (by first | rfl | (simp; done) | (simp [*]; done)), H', ⟨by first | omega | exact Nat.le_refl _⟩, ⟨by (with_reducible repeat (first | refine blk_drewN ?_ _ | refine blk_drew ?_ | refine blk_alloc ?_ _)); exact BK244.out⟩, ⟨by repeat (first | (with_reducible first | exact HB.out | apply below_alloc | apply pw_below_drewN | apply below_drew1 | refine below_set ?_ GE244.out) | exact HB.out)⟩⟩
  ·
   replace c6 := Bool.eq_false_iff.mpr c6
   subst c6
   have H1 : (selfstabref29_Privileged.j0 k l1 true) = some r := by rw [if_neg (show ¬ (false = true) by decide)] at H; exact H
   clear H
   have H := H1
   clear H1
   have H' := Aside0.mk H
   clear H
   try go_wp2
   have n0_ := Aside0.mk (blk_drew BK244.out)
   have n1_ := Aside0.mk (below_drew1 HB.out)
   clear BK244
   clear HB
   have BK244 := n0_
   have HB := n1_
   clear n0_ n1_
   refine start_ (n := 10) (S := fun w' => w'.cell? ⟨gb244, 0, none⟩ = some (.slice A0_0 l0_0.length c0_0) ∧ w'.cell? ⟨gb244, 1, none⟩ = some (.slice A0_1 l0_1.length c0_1)) (ds := []) #[false, false, false, false, false, false, false, false, false, false] (by kernel_rfl) rfl rfl ⟨(blk_cell BK244.out 0).trans rfl, (blk_cell BK244.out 1).trans rfl⟩ (fun hHeld => ?_); refine with_tabW selfstabref29_Privileged.tab1 selfstabref29_Privileged.bits1 (fun HT_ HW_ => ?_)
   generalize w4.drew = w14 at BK244 HB hHeld ⊢
   refine take_ (i := 0) (N := some 8) (v := ?_) (a' := ?_) #[true, false, false, false, false, false, false, false, false, false] rfl rfl (take_ofW HT_.out HW_.out (by kernel_rfl)) (fun _ _ _ h => h) (Or.inl ⟨by rfl, ?_⟩) hHeld ?_ ?_
   rotate_left
   ·
    rintro w' ⟨s0, s1⟩
    go_simp
    with_reducible rfl
   rotate_left
   ·
    simp only [Act.put, List.setIfInBounds_toArray, List.set_cons_zero, List.set_cons_succ, i64_w, i32_w]
    rfl
   refine one_ (i := 1) (N := some 9) #[true, true, false, false, false, false, false, false, false, false] rfl rfl (one_of HT_.out (by kernel_rfl)) (by decide) (fun K hK => ?_)
   refine goes_ Try.func22 (by kernel_rfl) rfl #[.agg #[.slice A0_0 l0_0.length c0_0, .slice A0_1 l0_1.length c0_1]] (by rfl) rfl rfl (by (try simp only [List.map_toArray, List.map_cons, List.map_nil]); first | done | rfl | (simp only [List.length_drop, List.length_take]; rfl)) ?_
   with_reducible refine (selfstabref29_Fit.calls k _ _ l0_0 _ _ l0_1 false _ ?side1 ?side2 ?side3 ?side4 A5.out).mono ?_
   (case side1 => repeat (first | exact (Kd.C_below HR0_0.out HB.out) | (with_reducible refine Kd.C_alloc ?_ _) | (with_reducible refine Kd.C_drewN ?_ _) | (with_reducible refine Kd.C_drew ?_)))
   (case side2 => exact HC0_0.out)
   (case side3 => repeat (first | exact (Kd.C_below HR0_1.out HB.out) | (with_reducible refine Kd.C_alloc ?_ _) | (with_reducible refine Kd.C_drewN ?_ _) | (with_reducible refine Kd.C_drew ?_)))
   (case side4 => exact HC0_1.out)
   rintro e w15 ⟨rfl, hb⟩
   refine ⟨_, rfl, ?_⟩
   have n0_ := Aside0.mk (blk_below (g := gb244) (o := .cells #[.slice A0_0 l0_0.length c0_0, .slice A0_1 l0_1.length c0_1] 27 (0, 0)) (by (with_reducible repeat (first | refine blk_drewN ?_ _ | refine blk_drew ?_ | refine blk_alloc ?_ _)); exact BK244.out) hb)
   have n1_ := Aside0.mk (below_step (by repeat (first | (with_reducible first | exact HB.out | apply below_alloc | apply pw_below_drewN | apply below_drew1 | refine below_set ?_ GE244.out) | exact HB.out)) hb)
   clear BK244
   clear HB
   have BK244 := n0_
   have HB := n1_
   clear n0_ n1_
   (try clear hb)
   (try clear hb2)
   (try clear hk)
   (try clear hi)
   refine hK.out _ _ ⟨(blk_cell BK244.out 0).trans rfl, (blk_cell BK244.out 1).trans rfl⟩ (fun hHeld => ?_)
   clear hK K
   refine norm_ (a' := ?_) ?_ ?_
   rotate_left
   ·
    show Act.put _ (some 9) _ = _
    simp only [Act.put, List.setIfInBounds_toArray, List.set_cons_zero, List.set_cons_succ, i64_w, i32_w]
    rfl
   refine pure_ (i := 2) (N := some 10) (v := ?_) (a' := ?_) #[true, true, true, false, false, false, false, false, false, false] rfl rfl (any_of HT_.out (by kernel_rfl)) (fun _ _ _ h => h) (Or.inl ⟨by rfl, ?_⟩) ?_ ?_
   rotate_left
   ·
    intro w'
    go_simp
    with_reducible rfl
   rotate_left
   ·
    simp only [Act.put, List.setIfInBounds_toArray, List.set_cons_zero, List.set_cons_succ, i64_w, i32_w]
    rfl
   refine pure_ (i := 3) (N := some 11) (v := ?_) (a' := ?_) #[true, true, true, true, false, false, false, false, false, false] rfl rfl (any_of HT_.out (by kernel_rfl)) (fun _ _ _ h => h) (Or.inl ⟨by rfl, ?_⟩) ?_ ?_
   rotate_left
   ·
    intro w'
    go_simp
    with_reducible rfl
   rotate_left
   ·
    simp only [Act.put, List.setIfInBounds_toArray, List.set_cons_zero, List.set_cons_succ, i64_w, i32_w]
    rfl
   refine pure_ (i := 4) (N := some 12) (v := undef) (a' := ?_) #[true, true, true, true, true, false, false, false, false, false] rfl rfl (any_of HT_.out (by kernel_rfl)) (fun _ _ _ h => h) (Or.inr ⟨by rfl, rfl⟩) ?_ ?_
   rotate_left
   ·
    simp only [Act.put, List.setIfInBounds_toArray, List.set_cons_zero, List.set_cons_succ, i64_w, i32_w]
    rfl
   refine pure_ (i := 5) (N := some 13) (v := undef) (a' := ?_) #[true, true, true, true, true, true, false, false, false, false] rfl rfl (any_of HT_.out (by kernel_rfl)) (fun _ _ _ h => h) (Or.inr ⟨by rfl, rfl⟩) ?_ ?_
   rotate_left
   ·
    simp only [Act.put, List.setIfInBounds_toArray, List.set_cons_zero, List.set_cons_succ, i64_w, i32_w]
    rfl
   refine pure_ (i := 6) (N := some 14) (v := undef) (a' := ?_) #[true, true, true, true, true, true, true, false, false, false] rfl rfl (any_of HT_.out (by kernel_rfl)) (fun _ _ _ h => h) (Or.inr ⟨by rfl, rfl⟩) ?_ ?_
   rotate_left
   ·
    simp only [Act.put, List.setIfInBounds_toArray, List.set_cons_zero, List.set_cons_succ, i64_w, i32_w]
    rfl
   refine pure_ (i := 7) (N := some 15) (v := undef) (a' := ?_) #[true, true, true, true, true, true, true, true, false, false] rfl rfl (any_of HT_.out (by kernel_rfl)) (fun _ _ _ h => h) (Or.inr ⟨by rfl, rfl⟩) ?_ ?_
   rotate_left
   ·
    simp only [Act.put, List.setIfInBounds_toArray, List.set_cons_zero, List.set_cons_succ, i64_w, i32_w]
    rfl
   refine pure_ (i := 8) (N := some 16) (v := undef) (a' := ?_) #[true, true, true, true, true, true, true, true, true, false] rfl rfl (any_of HT_.out (by kernel_rfl)) (fun _ _ _ h => h) (Or.inr ⟨by rfl, rfl⟩) ?_ ?_
   rotate_left
   ·
    simp only [Act.put, List.setIfInBounds_toArray, List.set_cons_zero, List.set_cons_succ, i64_w, i32_w]
    rfl
   refine pure_ (i := 9) (N := some 17) (v := ?_) (a' := ?_) #[true, true, true, true, true, true, true, true, true, true] rfl rfl (any_of HT_.out (by kernel_rfl)) (fun _ _ _ h => h) (Or.inl ⟨by rfl, ?_⟩) ?_ ?_
   rotate_left
   ·
    intro w'
    go_simp
    with_reducible rfl
   rotate_left
   ·
    simp only [Act.put, List.setIfInBounds_toArray, List.set_cons_zero, List.set_cons_succ, i64_w, i32_w]
    rfl
   refine done_ (done_of HT_.out (by kernel_rfl)) ?_
   try go_wp2
   go_meet
   case rel => exact ⟨_, (true), (by first | rfl | (simp; done) | (simp [*]; done)), H', ⟨by first | omega | exact Nat.le_refl _⟩, ⟨by (with_reducible repeat (first | refine blk_drewN ?_ _ | refine blk_drew ?_ | refine blk_alloc ?_ _)); exact BK244.out⟩, ⟨by repeat (first | (with_reducible first | exact HB.out | apply below_alloc | apply pw_below_drewN | apply below_drew1 | refine below_set ?_ GE244.out) | exact HB.out)⟩⟩
 case rest =>
  clear HC3
  try clear c1
  try clear c2
  try clear p2
  try clear c6
  try clear c8
  obtain ⟨kq, x17_2, rfl, HA, HJ2, BK244, HB⟩ := hcut
  cases kq with
  | zero => exact absurd HA.out (by simp [selfstabref29_Privileged.j0])
  | succ kj2 =>
   have H := HA.out
   clear HA
   simp only [selfstabref29_Privileged.j0] at H
   by_cases c16 : x17_2 = true
   ·
    subst c16
    have H1 : (some 0) = some r := by rw [if_pos rfl] at H; exact H
    clear H
    have H := H1
    clear H1
    obtain rfl := Option.some.inj H
    go_wp2
    go_ret
    exact ⟨by first | rfl | (simp [errW_none, errW_some] <;> rfl) | (simp [*, errW_none, errW_some] <;> rfl), by repeat (first | (with_reducible first | exact HB.out | apply below_alloc | apply pw_below_drewN | apply below_drew1 | refine below_set ?_ GE244.out) | exact HB.out)⟩
   ·
    replace c16 := Bool.eq_false_iff.mpr c16
    subst c16
    have H1 : (if 0 < (l1.length : Int) then (if 0 < ((rd_L3 l1 0).length : Int) then (if 0 ≤ (wrap64 ((l1.length : Int) - 1)) then (if (wrap64 ((l1.length : Int) - 1)) < (l1.length : Int) then (if 0 < ((rd_L3 l1 (wrap64 ((l1.length : Int) - 1))).length : Int) then (if (rd (rd_L3 l1 0) 0) = (rd (rd_L3 l1 (wrap64 ((l1.length : Int) - 1))) 0) then (selfstabref29_Privileged.j1 kj2 l1 1 (l1.length : Int)) else (selfstabref29_Privileged.j1 kj2 l1 0 (l1.length : Int))) else (none)) else (none)) else (none)) else (none)) else (none)) = some r := by rw [if_neg (show ¬ (false = true) by decide)] at H; exact H
    clear H
    have H := H1
    clear H1
    by_cases c17 : 0 < (l1.length : Int)
    ·
     rw [if_pos c17] at H
     have c17b0 : decide (0 < (l1.length : Int)) = true := decide_eq_true c17
     have c17b1 : decide (0 < l1.length) = true := decide_eq_true (by omega)
     clear c17
     by_cases c18 : 0 < ((rd_L3 l1 0).length : Int)
     ·
      rw [if_pos c18] at H
      have c18b0 : decide (0 < ((rd_L3 l1 0).length : Int)) = true := decide_eq_true c18
      have c18b1 : decide (0 < (rd_L3 l1 0).length) = true := decide_eq_true (by omega)
      clear c18
      obtain ⟨ji19, hji19⟩ : ∃ j_ : Int, (wrap64 ((l1.length : Int) - 1)) = j_ := ⟨_, rfl⟩
      replace H : (if 0 ≤ (ji19) then (if (ji19) < (l1.length : Int) then (if 0 < ((rd_L3 l1 (ji19)).length : Int) then (if (rd (rd_L3 l1 0) 0) = (rd (rd_L3 l1 (ji19)) 0) then (selfstabref29_Privileged.j1 kj2 l1 1 (l1.length : Int)) else (selfstabref29_Privileged.j1 kj2 l1 0 (l1.length : Int))) else (none)) else (none)) else (none)) = some r := by first | (rw [hji19] at H; exact H) | (simp only [hji19] at H ⊢; exact H)
      have hji19w : (IntKind.i64.wrap ((l1.length : Int) - 1)) = ji19 := (i64_w _).trans hji19
      by_cases c20 : 0 ≤ (ji19)
      ·
       rw [if_pos c20] at H
       have c20b0 : decide (0 ≤ (ji19)) = true := decide_eq_true c20
       clear c20
       by_cases c21 : (ji19) < (l1.length : Int)
       ·
        rw [if_pos c21] at H
        have c21b0 : decide ((ji19) < (l1.length : Int)) = true := decide_eq_true c21
        clear c21
        by_cases c22 : 0 < ((rd_L3 l1 (ji19)).length : Int)
        ·
         rw [if_pos c22] at H
         have c22b0 : decide (0 < ((rd_L3 l1 (ji19)).length : Int)) = true := decide_eq_true c22
         have c22b1 : decide (0 < (rd_L3 l1 (ji19)).length) = true := decide_eq_true (by omega)
         clear c22
         have HC23 := Aside0.mk H
         clear H
         try go_wp2
         have n0_ := Aside0.mk (blk_drew BK244.out)
         have n1_ := Aside0.mk (below_drew1 HB.out)
         clear BK244
         clear HB
         have BK244 := n0_
         have HB := n1_
         clear n0_ n1_
         have p250 : 0 ≤ (0 : Int) := (by omega)
         have q250 : 0 < (l1.length : Int) := of_decide_eq_true (by first | (with_reducible assumption) | assumption)
         obtain ⟨ad250, A250_0, c250_0, e250, hx250_0, hl250_0, hi250_0⟩ := at_L3 HR1.out 0 p250 q250
         have hw250_0 := hx250_0
         (try rw [show ((0 : Int)).toNat = 0 from rfl] at hw250_0)
         (try rw [show 0 * 1 = 0 from rfl] at hw250_0)
         (try rw [Addr.add_zero'] at hw250_0)
         cases e250
         have qi250 : (0 < l1.length) = True := eq_true (by omega)
         (try rw [show ((0 : Int)).toNat = 0 from rfl] at hx250_0)
         (try rw [Addr.add_zero'] at hx250_0)
         replace hx250_0 := (HB.out.cell (World.block_lt_of_cell? w _ hx250_0)).trans hx250_0
         have HR250_0 := Aside0.mk hi250_0
         have HC250_0 := Aside0.mk hl250_0
         clear hi250_0 hl250_0
         replace p250 := eq_true p250
         replace q250 := eq_true q250
         have p251 : 0 ≤ (0 : Int) := (by omega)
         have q251 : 0 < ((rd_L3 l1 0).length : Int) := of_decide_eq_true (by first | (with_reducible assumption) | assumption)
         obtain ⟨ad251, e251, hx251_0⟩ := Kd.at_int HR250_0.out 0 p251 q251
         have hw251_0 := hx251_0
         (try rw [show ((0 : Int)).toNat = 0 from rfl] at hw251_0)
         (try rw [show 0 * 1 = 0 from rfl] at hw251_0)
         (try rw [Addr.add_zero'] at hw251_0)
         cases e251
         have qi251 : (0 < (rd_L3 l1 0).length) = True := eq_true (by omega)
         (try rw [show ((0 : Int)).toNat = 0 from rfl] at hx251_0)
         (try rw [Addr.add_zero'] at hx251_0)
         replace hx251_0 := (HB.out.cell (World.block_lt_of_cell? w _ hx251_0)).trans hx251_0
         replace p251 := eq_true p251
         replace q251 := eq_true q251
         have p252 : 0 ≤ ((ji19) : Int) := of_decide_eq_true (by first | (with_reducible assumption) | assumption)
         have q252 : (ji19) < (l1.length : Int) := of_decide_eq_true (by first | (with_reducible assumption) | assumption)
         obtain ⟨ad252, A252_0, c252_0, e252, hx252_0, hl252_0, hi252_0⟩ := at_L3 HR1.out (ji19) p252 q252
         have hw252_0 := hx252_0
         obtain rfl : ad250 = ad252 := (by injection e252)
         replace hx252_0 := (HB.out.cell (World.block_lt_of_cell? w _ hx252_0)).trans hx252_0
         have HR252_0 := Aside0.mk hi252_0
         have HC252_0 := Aside0.mk hl252_0
         clear hi252_0 hl252_0
         replace p252 := eq_true p252
         replace q252 := eq_true q252
         have p253 : 0 ≤ (0 : Int) := (by omega)
         have q253 : 0 < ((rd_L3 l1 (ji19)).length : Int) := of_decide_eq_true (by first | (with_reducible assumption) | assumption)
         obtain ⟨ad253, e253, hx253_0⟩ := Kd.at_int HR252_0.out 0 p253 q253
         have hw253_0 := hx253_0
         (try rw [show ((0 : Int)).toNat = 0 from rfl] at hw253_0)
         (try rw [show 0 * 1 = 0 from rfl] at hw253_0)
         (try rw [Addr.add_zero'] at hw253_0)
         cases e253
         have qi253 : (0 < (rd_L3 l1 (ji19)).length) = True := eq_true (by omega)
         (try rw [show ((0 : Int)).toNat = 0 from rfl] at hx253_0)
         (try rw [Addr.add_zero'] at hx253_0)
         replace hx253_0 := (HB.out.cell (World.block_lt_of_cell? w _ hx253_0)).trans hx253_0
         replace p253 := eq_true p253
         replace q253 := eq_true q253
         refine start_ (n := 13) (S := fun w' => w'.cell? ad250 = some (.slice (some ad251) (rd_L3 l1 0).length c250_0) ∧ w'.cell? ad251 = some (.int .i64 (rd (rd_L3 l1 0) 0)) ∧ w'.cell? (ad250.add ((ji19)).toNat) = some (.slice (some ad253) (rd_L3 l1 (ji19)).length c252_0) ∧ w'.cell? ad253 = some (.int .i64 (rd (rd_L3 l1 (ji19)) 0))) (ds := []) #[false, false, false, false, false, false, false, false, false, false, false, false, false] (by kernel_rfl) rfl rfl ⟨((HB.out.cell (World.block_lt_of_cell? w _ hw250_0)).trans hw250_0), ((HB.out.cell (World.block_lt_of_cell? w _ hw251_0)).trans hw251_0), ((HB.out.cell (World.block_lt_of_cell? w _ hw252_0)).trans hw252_0), ((HB.out.cell (World.block_lt_of_cell? w _ hw253_0)).trans hw253_0)⟩ (fun hHeld => ?_); refine with_tabW selfstabref29_Privileged.tab4 selfstabref29_Privileged.bits4 (fun HT_ HW_ => ?_)
         generalize wc.drew = w24 at BK244 HB HR250_0 HR252_0 hx250_0 hx251_0 hx252_0 hx253_0 hHeld ⊢
         refine pure_ (i := 0) (N := some 20) (v := ?_) (a' := ?_) #[true, false, false, false, false, false, false, false, false, false, false, false, false] rfl rfl (any_of HT_.out (by kernel_rfl)) (fun _ _ _ h => h) (Or.inl ⟨by rfl, ?_⟩) ?_ ?_
         rotate_left
         ·
          intro w'
          go_simp
          with_reducible rfl
         rotate_left
         ·
          simp only [Act.put, List.setIfInBounds_toArray, List.set_cons_zero, List.set_cons_succ, i64_w, i32_w]
          rfl
         refine pure_ (i := 1) (N := some 21) (v := ?_) (a' := ?_) #[true, true, false, false, false, false, false, false, false, false, false, false, false] rfl rfl (any_of HT_.out (by kernel_rfl)) (fun _ _ _ h => h) (Or.inl ⟨by rfl, ?_⟩) ?_ ?_
         rotate_left
         ·
          intro w'
          go_simp
          with_reducible rfl
         rotate_left
         ·
          simp only [Act.put, List.setIfInBounds_toArray, List.set_cons_zero, List.set_cons_succ, i64_w, i32_w]
          rfl
         refine pure_ (i := 5) (N := some 25) (v := ?_) (a' := ?_) #[true, true, false, false, false, true, false, false, false, false, false, false, false] rfl rfl (any_of HT_.out (by kernel_rfl)) (fun _ _ _ h => h) (Or.inl ⟨by rfl, ?_⟩) ?_ ?_
         rotate_left
         ·
          intro w'
          go_simp
          with_reducible rfl
         rotate_left
         ·
          simp only [Act.put, List.setIfInBounds_toArray, List.set_cons_zero, List.set_cons_succ, i64_w, i32_w]
          rfl
         refine pure_ (i := 6) (N := some 26) (v := ?_) (a' := ?_) #[true, true, false, false, false, true, true, false, false, false, false, false, false] rfl rfl (any_of HT_.out (by kernel_rfl)) (fun _ _ _ h => h) (Or.inl ⟨by rfl, ?_⟩) ?_ ?_
         rotate_left
         ·
          intro w'
          go_simp
          with_reducible rfl
         rotate_left
         ·
          simp only [Act.put, List.setIfInBounds_toArray, List.set_cons_zero, List.set_cons_succ, i64_w, i32_w]
          rfl
         refine pure_ (i := 7) (N := some 27) (v := ?_) (a' := ?_) #[true, true, false, false, false, true, true, true, false, false, false, false, false] rfl rfl (any_of HT_.out (by kernel_rfl)) (fun _ _ _ h => h) (Or.inl ⟨by rfl, ?_⟩) ?_ ?_
         rotate_left
         ·
          intro w'
          go_simp
          with_reducible rfl
         rotate_left
         ·
          simp only [Act.put, List.setIfInBounds_toArray, List.set_cons_zero, List.set_cons_succ, i64_w, i32_w]
          rfl
         refine pure_ (i := 8) (N := some 28) (v := ?_) (a' := ?_) #[true, true, false, false, false, true, true, true, true, false, false, false, false] rfl rfl (any_of HT_.out (by kernel_rfl)) (fun _ _ _ h => h) (Or.inl ⟨by rfl, ?_⟩) ?_ ?_
         rotate_left
         ·
          intro w'
          go_simp
          with_reducible rfl
         rotate_left
         ·
          simp only [Act.put, List.setIfInBounds_toArray, List.set_cons_zero, List.set_cons_succ, i64_w, i32_w]
          rfl
         refine take_ (i := 2) (N := some 22) (v := ?_) (a' := ?_) #[true, true, true, false, false, true, true, true, true, false, false, false, false] rfl rfl (take_ofW HT_.out HW_.out (by kernel_rfl)) (fun _ _ _ h => h) (Or.inl ⟨by rfl, ?_⟩) hHeld ?_ ?_
         rotate_left
         ·
          rintro w' ⟨s0, s1, s2, s3⟩
          go_simp
          with_reducible rfl
         rotate_left
         ·
          simp only [Act.put, List.setIfInBounds_toArray, List.set_cons_zero, List.set_cons_succ, i64_w, i32_w]
          rfl
         refine pure_ (i := 3) (N := some 23) (v := ?_) (a' := ?_) #[true, true, true, true, false, true, true, true, true, false, false, false, false] rfl rfl (any_of HT_.out (by kernel_rfl)) (fun _ _ _ h => h) (Or.inl ⟨by rfl, ?_⟩) ?_ ?_
         rotate_left
         ·
          intro w'
          go_simp
          with_reducible rfl
         rotate_left
         ·
          simp only [Act.put, List.setIfInBounds_toArray, List.set_cons_zero, List.set_cons_succ, i64_w, i32_w]
          rfl
         refine take_ (i := 4) (N := some 24) (v := ?_) (a' := ?_) #[true, true, true, true, true, true, true, true, true, false, false, false, false] rfl rfl (take_ofW HT_.out HW_.out (by kernel_rfl)) (fun _ _ _ h => h) (Or.inl ⟨by rfl, ?_⟩) hHeld ?_ ?_
         rotate_left
         ·
          rintro w' ⟨s0, s1, s2, s3⟩
          go_simp
          with_reducible rfl
         rotate_left
         ·
          simp only [Act.put, List.setIfInBounds_toArray, List.set_cons_zero, List.set_cons_succ, i64_w, i32_w]
          rfl
         refine take_ (i := 9) (N := some 29) (v := ?_) (a' := ?_) #[true, true, true, true, true, true, true, true, true, true, false, false, false] rfl rfl (take_ofW HT_.out HW_.out (by kernel_rfl)) (fun _ _ _ h => h) (Or.inl ⟨by rfl, ?_⟩) hHeld ?_ ?_
         rotate_left
         ·
          rintro w' ⟨s0, s1, s2, s3⟩
          go_simp
          with_reducible rfl
         rotate_left
         ·
          simp only [Act.put, List.setIfInBounds_toArray, List.set_cons_zero, List.set_cons_succ, i64_w, i32_w]
          rfl
         refine pure_ (i := 10) (N := some 30) (v := ?_) (a' := ?_) #[true, true, true, true, true, true, true, true, true, true, true, false, false] rfl rfl (any_of HT_.out (by kernel_rfl)) (fun _ _ _ h => h) (Or.inl ⟨by rfl, ?_⟩) ?_ ?_
         rotate_left
         ·
          intro w'
          go_simp
          with_reducible rfl
         rotate_left
         ·
          simp only [Act.put, List.setIfInBounds_toArray, List.set_cons_zero, List.set_cons_succ, i64_w, i32_w]
          rfl
         refine take_ (i := 11) (N := some 31) (v := ?_) (a' := ?_) #[true, true, true, true, true, true, true, true, true, true, true, true, false] rfl rfl (take_ofW HT_.out HW_.out (by kernel_rfl)) (fun _ _ _ h => h) (Or.inl ⟨by rfl, ?_⟩) hHeld ?_ ?_
         rotate_left
         ·
          rintro w' ⟨s0, s1, s2, s3⟩
          go_simp
          with_reducible rfl
         rotate_left
         ·
          simp only [Act.put, List.setIfInBounds_toArray, List.set_cons_zero, List.set_cons_succ, i64_w, i32_w]
          rfl
         refine pure_ (i := 12) (N := some 32) (v := ?_) (a' := ?_) #[true, true, true, true, true, true, true, true, true, true, true, true, true] rfl rfl (any_of HT_.out (by kernel_rfl)) (fun _ _ _ h => h) (Or.inl ⟨by rfl, ?_⟩) ?_ ?_
         rotate_left
         ·
          intro w'
          go_simp
          with_reducible rfl
         rotate_left
         ·
          simp only [Act.put, List.setIfInBounds_toArray, List.set_cons_zero, List.set_cons_succ, i64_w, i32_w]
          rfl
         refine done_ (done_of HT_.out (by kernel_rfl)) ?_
         go_upto_if 32 with (fail)
         go_cut [5] (fun v5 wc => ∃ (kq : Nat) (x5_22 : Int), v5 = .int .u32 x5_22 ∧ Aside0 (selfstabref29_Privileged.j1 kq l1 x5_22 (l1.length : Int) = some r) ∧ Aside0 (kq ≤ kj2) ∧ Aside0 (wc.heap[gb244]? = some (.cells #[(.slice A0_0 l0_0.length c0_0), (.slice A0_1 l0_1.length c0_1)] 27 (0, 0))) ∧ Aside0 (Below w.heap.size w wc))
         case first =>
          have H := HC23.out
          clear HC23
          by_cases c25 : (rd (rd_L3 l1 0) 0) = (rd (rd_L3 l1 (ji19)) 0)
          ·
           rw [if_pos c25] at H
           have c25b0 : ((rd (rd_L3 l1 0) 0) == (rd (rd_L3 l1 (ji19)) 0)) = true := beq_iff_eq.mpr c25
           have c25b1 : ((rd (rd_L3 l1 0) 0) != (rd (rd_L3 l1 (ji19)) 0)) = false := bne_eq_false_iff_eq.mpr c25
           clear c25
           (first | rw [c25b0] | (simp only [i64_w, i32_w]; rw [c25b0]) | skip)
           have H' := Aside0.mk H
           clear H
           go_wp2
           go_meet
           case rel => exact ⟨_, (1), (by first | rfl | (simp; done) | (simp [*]; done)), H', ⟨by have := HJ2.out; first | omega | exact Nat.le_refl _⟩, ⟨by (with_reducible repeat (first | refine blk_drewN ?_ _ | refine blk_drew ?_ | refine blk_alloc ?_ _)); exact BK244.out⟩, ⟨by repeat (first | (with_reducible first | exact HB.out | apply below_alloc | apply pw_below_drewN | apply below_drew1 | refine below_set ?_ GE244.out) | exact HB.out)⟩⟩
          ·
           rw [if_neg c25] at H
           have c25b0 : ((rd (rd_L3 l1 0) 0) == (rd (rd_L3 l1 (ji19)) 0)) = false := beq_eq_false_iff_ne.mpr c25
           have c25b1 : ((rd (rd_L3 l1 0) 0) != (rd (rd_L3 l1 (ji19)) 0)) = true := bne_iff_ne.mpr c25
           (first | rw [c25b0] | (simp only [i64_w, i32_w]; rw [c25b0]) | skip)
           have H' := Aside0.mk H
           clear H
           go_wp2
           go_meet
           case rel => exact ⟨_, (0), (by first | rfl | (simp; done) | (simp [*]; done)), H', ⟨by have := HJ2.out; first | omega | exact Nat.le_refl _⟩, ⟨by (with_reducible repeat (first | refine blk_drewN ?_ _ | refine blk_drew ?_ | refine blk_alloc ?_ _)); exact BK244.out⟩, ⟨by repeat (first | (with_reducible first | exact HB.out | apply below_alloc | apply pw_below_drewN | apply below_drew1 | refine below_set ?_ GE244.out) | exact HB.out)⟩⟩
         case rest =>
          clear HC23
          try clear c1
          try clear c2
          try clear p2
          try clear q2
          try clear hx2
          try clear qi2
          try clear c6
          try clear p6
          try clear c8
          try clear c16
          try clear c17
          try clear c17b0
          try clear c17b1
          try clear c18
          try clear c18b0
          try clear c18b1
          try clear c20
          try clear c20b0
          try clear c21
          try clear c21b0
          try clear c22
          try clear c22b0
          try clear c22b1
          try clear c25
          try clear c25b0
          try clear c25b1
          try clear p25
          try clear q25
          try clear hx25
          try clear qi25
          try clear hx250_0
          try clear hx251_0
          try clear hx252_0
          try clear hx253_0
          try clear p2
          try clear p250
          try clear p251
          try clear p252
          try clear p253
          try clear q250
          try clear q251
          try clear q252
          try clear q253
          obtain ⟨kq, x5_22, rfl, HA, HJ22, BK244, HB⟩ := hcut
          cases kq with
          | zero => exact absurd HA.out (by simp [selfstabref29_Privileged.j1])
          | succ kj22 =>
           have H := HA.out
           clear HA
           simp only [selfstabref29_Privileged.j1] at H
           have H' := Aside0.mk H
           clear H
           go_wp2
           go_loopg [5, 7] kj22 (fun kq v5 v7 w' => ∃ (x5_3 : Int) (x7_3 : Int), v5 = .int .u32 x5_3 ∧ v7 = .int .i64 x7_3 ∧ Aside0 (selfstabref29_Privileged.l0 kq l1 x5_3 (l1.length : Int) x7_3 = some r) ∧ Aside0 (kq ≤ kj22) ∧ Aside0 (w'.heap[gb244]? = some (.cells #[(.slice A0_0 l0_0.length c0_0), (.slice A0_1 l0_1.length c0_1)] 27 (0, 0))) ∧ Aside0 (Below w.heap.size w w'))
           case atStart => exact ⟨(x5_22), (1), (by first | rfl | (simp; done) | (simp [*]; done)), (by first | rfl | (simp; done) | (simp [*]; done)), H', ⟨Nat.le_refl _⟩, ⟨by (with_reducible repeat (first | refine blk_drewN ?_ _ | refine blk_drew ?_ | refine blk_alloc ?_ _)); exact BK244.out⟩, ⟨by repeat (first | (with_reducible first | exact HB.out | apply below_alloc | apply pw_below_drewN | apply below_drew1 | refine below_set ?_ GE244.out) | exact HB.out)⟩⟩
           case round =>
            clear H'
            try clear c1
            try clear c2
            try clear p2
            try clear q2
            try clear hx2
            try clear qi2
            try clear c6
            try clear p6
            try clear c8
            try clear c16
            try clear c17
            try clear c17b0
            try clear c17b1
            try clear c18
            try clear c18b0
            try clear c18b1
            try clear c20
            try clear c20b0
            try clear c21
            try clear c21b0
            try clear c22
            try clear c22b0
            try clear c22b1
            try clear c25
            try clear c25b0
            try clear c25b1
            try clear p25
            try clear q25
            try clear hx25
            try clear qi25
            try clear hx250_0
            try clear hx251_0
            try clear hx252_0
            try clear hx253_0
            try clear p2
            try clear p25
            try clear p250
            try clear p251
            try clear p252
            try clear p253
            try clear p6
            try clear q2
            try clear q25
            try clear q250
            try clear q251
            try clear q252
            try clear q253
            obtain ⟨x5_3, x7_3, rfl, rfl, HA, HK3, BK244, HB⟩ := hrel
            cases gk with
            | zero => exact absurd HA.out (by simp [selfstabref29_Privileged.l0])
            | succ k3 =>
             have H := HA.out
             clear HA
             simp only [selfstabref29_Privileged.l0] at H
             by_cases c26 : x7_3 < (l1.length : Int)
             ·
              rw [if_pos c26] at H
              have c26b0 : decide (x7_3 < (l1.length : Int)) = true := decide_eq_true c26
              clear c26
              by_cases c27 : 0 ≤ x7_3
              ·
               rw [if_pos c27] at H
               have c27b0 : decide (0 ≤ x7_3) = true := decide_eq_true c27
               clear c27
               by_cases c28 : x7_3 < (l1.length : Int)
               ·
                rw [if_pos c28] at H
                have c28b0 : decide (x7_3 < (l1.length : Int)) = true := decide_eq_true c28
                clear c28
                by_cases c29 : 0 < ((rd_L3 l1 x7_3).length : Int)
                ·
                 rw [if_pos c29] at H
                 have c29b0 : decide (0 < ((rd_L3 l1 x7_3).length : Int)) = true := decide_eq_true c29
                 have c29b1 : decide (0 < (rd_L3 l1 x7_3).length) = true := decide_eq_true (by omega)
                 clear c29
                 obtain ⟨ji30, hji30⟩ : ∃ j_ : Int, (wrap64 (x7_3 - 1)) = j_ := ⟨_, rfl⟩
                 replace H : (if 0 ≤ (ji30) then (if (ji30) < (l1.length : Int) then (if 0 < ((rd_L3 l1 (ji30)).length : Int) then (if (rd (rd_L3 l1 x7_3) 0) = (rd (rd_L3 l1 (ji30)) 0) then (selfstabref29_Privileged.l0 k3 l1 x5_3 (l1.length : Int) (wrap64 (x7_3 + 1))) else (if 0 ≤ (IntKind.u64.wrap (x7_3)) then (selfstabref29_Privileged.l0 k3 l1 (Go.bits .or .u32 x5_3 (shl .u32 1 (IntKind.u64.wrap (x7_3)))) (l1.length : Int) (wrap64 (x7_3 + 1))) else (none))) else (none)) else (none)) else (none)) = some r := by first | (rw [hji30] at H; exact H) | (simp only [hji30] at H ⊢; exact H)
                 have hji30w : (IntKind.i64.wrap (x7_3 - 1)) = ji30 := (i64_w _).trans hji30
                 by_cases c31 : 0 ≤ (ji30)
                 ·
                  rw [if_pos c31] at H
                  have c31b0 : decide (0 ≤ (ji30)) = true := decide_eq_true c31
                  clear c31
                  by_cases c32 : (ji30) < (l1.length : Int)
                  ·
                   rw [if_pos c32] at H
                   have c32b0 : decide ((ji30) < (l1.length : Int)) = true := decide_eq_true c32
                   clear c32
                   by_cases c33 : 0 < ((rd_L3 l1 (ji30)).length : Int)
                   ·
                    rw [if_pos c33] at H
                    have c33b0 : decide (0 < ((rd_L3 l1 (ji30)).length : Int)) = true := decide_eq_true c33
                    have c33b1 : decide (0 < (rd_L3 l1 (ji30)).length) = true := decide_eq_true (by omega)
                    clear c33
                    by_cases c34 : (rd (rd_L3 l1 x7_3) 0) = (rd (rd_L3 l1 (ji30)) 0)
                    ·
                     rw [if_pos c34] at H
                     have c34b0 : ((rd (rd_L3 l1 x7_3) 0) == (rd (rd_L3 l1 (ji30)) 0)) = true := beq_iff_eq.mpr c34
                     have c34b1 : ((rd (rd_L3 l1 x7_3) 0) != (rd (rd_L3 l1 (ji30)) 0)) = false := bne_eq_false_iff_eq.mpr c34
                     clear c34
                     have H' := Aside0.mk H
                     clear H
                     try go_wp2
                     have n0_ := Aside0.mk (blk_drew BK244.out)
                     have n1_ := Aside0.mk (below_drew1 HB.out)
                     clear BK244
                     clear HB
                     have BK244 := n0_
                     have HB := n1_
                     clear n0_ n1_
                     have p254 : 0 ≤ (x7_3 : Int) := of_decide_eq_true (by first | (with_reducible assumption) | assumption)
                     have q254 : x7_3 < (l1.length : Int) := of_decide_eq_true (by first | (with_reducible assumption) | assumption)
                     obtain ⟨ad254, A254_0, c254_0, e254, hx254_0, hl254_0, hi254_0⟩ := at_L3 HR1.out x7_3 p254 q254
                     have hw254_0 := hx254_0
                     obtain rfl : ad250 = ad254 := (by injection e254)
                     replace hx254_0 := (HB.out.cell (World.block_lt_of_cell? w _ hx254_0)).trans hx254_0
                     have HR254_0 := Aside0.mk hi254_0
                     have HC254_0 := Aside0.mk hl254_0
                     clear hi254_0 hl254_0
                     replace p254 := eq_true p254
                     replace q254 := eq_true q254
                     have p255 : 0 ≤ (0 : Int) := (by omega)
                     have q255 : 0 < ((rd_L3 l1 x7_3).length : Int) := of_decide_eq_true (by first | (with_reducible assumption) | assumption)
                     obtain ⟨ad255, e255, hx255_0⟩ := Kd.at_int HR254_0.out 0 p255 q255
                     have hw255_0 := hx255_0
                     (try rw [show ((0 : Int)).toNat = 0 from rfl] at hw255_0)
                     (try rw [show 0 * 1 = 0 from rfl] at hw255_0)
                     (try rw [Addr.add_zero'] at hw255_0)
                     cases e255
                     have qi255 : (0 < (rd_L3 l1 x7_3).length) = True := eq_true (by omega)
                     (try rw [show ((0 : Int)).toNat = 0 from rfl] at hx255_0)
                     (try rw [Addr.add_zero'] at hx255_0)
                     replace hx255_0 := (HB.out.cell (World.block_lt_of_cell? w _ hx255_0)).trans hx255_0
                     replace p255 := eq_true p255
                     replace q255 := eq_true q255
                     have p256 : 0 ≤ ((ji30) : Int) := of_decide_eq_true (by first | (with_reducible assumption) | assumption)
                     have q256 : (ji30) < (l1.length : Int) := of_decide_eq_true (by first | (with_reducible assumption) | assumption)
                     obtain ⟨ad256, A256_0, c256_0, e256, hx256_0, hl256_0, hi256_0⟩ := at_L3 HR1.out (ji30) p256 q256
                     have hw256_0 := hx256_0
                     obtain rfl : ad250 = ad256 := (by injection e256)
                     replace hx256_0 := (HB.out.cell (World.block_lt_of_cell? w _ hx256_0)).trans hx256_0
                     have HR256_0 := Aside0.mk hi256_0
                     have HC256_0 := Aside0.mk hl256_0
                     clear hi256_0 hl256_0
                     replace p256 := eq_true p256
                     replace q256 := eq_true q256
                     have p257 : 0 ≤ (0 : Int) := (by omega)
                     have q257 : 0 < ((rd_L3 l1 (ji30)).length : Int) := of_decide_eq_true (by first | (with_reducible assumption) | assumption)
                     obtain ⟨ad257, e257, hx257_0⟩ := Kd.at_int HR256_0.out 0 p257 q257
                     have hw257_0 := hx257_0
                     (try rw [show ((0 : Int)).toNat = 0 from rfl] at hw257_0)
                     (try rw [show 0 * 1 = 0 from rfl] at hw257_0)
                     (try rw [Addr.add_zero'] at hw257_0)
                     cases e257
                     have qi257 : (0 < (rd_L3 l1 (ji30)).length) = True := eq_true (by omega)
                     (try rw [show ((0 : Int)).toNat = 0 from rfl] at hx257_0)
                     (try rw [Addr.add_zero'] at hx257_0)
                     replace hx257_0 := (HB.out.cell (World.block_lt_of_cell? w _ hx257_0)).trans hx257_0
                     replace p257 := eq_true p257
                     replace q257 := eq_true q257
                     refine start_ (n := 14) (S := fun w' => w'.cell? (ad250.add (x7_3).toNat) = some (.slice (some ad255) (rd_L3 l1 x7_3).length c254_0) ∧ w'.cell? ad255 = some (.int .i64 (rd (rd_L3 l1 x7_3) 0)) ∧ w'.cell? (ad250.add ((ji30)).toNat) = some (.slice (some ad257) (rd_L3 l1 (ji30)).length c256_0) ∧ w'.cell? ad257 = some (.int .i64 (rd (rd_L3 l1 (ji30)) 0))) (ds := []) #[false, false, false, false, false, false, false, false, false, false, false, false, false, false] (by kernel_rfl) rfl rfl ⟨((HB.out.cell (World.block_lt_of_cell? w _ hw254_0)).trans hw254_0), ((HB.out.cell (World.block_lt_of_cell? w _ hw255_0)).trans hw255_0), ((HB.out.cell (World.block_lt_of_cell? w _ hw256_0)).trans hw256_0), ((HB.out.cell (World.block_lt_of_cell? w _ hw257_0)).trans hw257_0)⟩ (fun hHeld => ?_); refine with_tabW selfstabref29_Privileged.tab9 selfstabref29_Privileged.bits9 (fun HT_ HW_ => ?_)
                     generalize wr.drew = w35 at BK244 HB HR254_0 HR256_0 hx254_0 hx255_0 hx256_0 hx257_0 hHeld ⊢
                     refine pure_ (i := 0) (N := some 38) (v := ?_) (a' := ?_) #[true, false, false, false, false, false, false, false, false, false, false, false, false, false] rfl rfl (any_of HT_.out (by kernel_rfl)) (fun _ _ _ h => h) (Or.inl ⟨by rfl, ?_⟩) ?_ ?_
                     rotate_left
                     ·
                      intro w'
                      go_simp
                      with_reducible rfl
                     rotate_left
                     ·
                      simp only [Act.put, List.setIfInBounds_toArray, List.set_cons_zero, List.set_cons_succ, i64_w, i32_w]
                      rfl
                     refine pure_ (i := 1) (N := some 39) (v := ?_) (a' := ?_) #[true, true, false, false, false, false, false, false, false, false, false, false, false, false] rfl rfl (any_of HT_.out (by kernel_rfl)) (fun _ _ _ h => h) (Or.inl ⟨by rfl, ?_⟩) ?_ ?_
                     rotate_left
                     ·
                      intro w'
                      go_simp
                      with_reducible rfl
                     rotate_left
                     ·
                      simp only [Act.put, List.setIfInBounds_toArray, List.set_cons_zero, List.set_cons_succ, i64_w, i32_w]
                      rfl
                     refine pure_ (i := 2) (N := some 40) (v := ?_) (a' := ?_) #[true, true, true, false, false, false, false, false, false, false, false, false, false, false] rfl rfl (any_of HT_.out (by kernel_rfl)) (fun _ _ _ h => h) (Or.inl ⟨by rfl, ?_⟩) ?_ ?_
                     rotate_left
                     ·
                      intro w'
                      go_simp
                      with_reducible rfl
                     rotate_left
                     ·
                      simp only [Act.put, List.setIfInBounds_toArray, List.set_cons_zero, List.set_cons_succ, i64_w, i32_w]
                      rfl
                     refine pure_ (i := 6) (N := some 44) (v := ?_) (a' := ?_) #[true, true, true, false, false, false, true, false, false, false, false, false, false, false] rfl rfl (any_of HT_.out (by kernel_rfl)) (fun _ _ _ h => h) (Or.inl ⟨by rfl, ?_⟩) ?_ ?_
                     rotate_left
                     ·
                      intro w'
                      go_simp
                      with_reducible rfl
                     rotate_left
                     ·
                      simp only [Act.put, List.setIfInBounds_toArray, List.set_cons_zero, List.set_cons_succ, i64_w, i32_w]
                      rfl
                     refine pure_ (i := 7) (N := some 45) (v := ?_) (a' := ?_) #[true, true, true, false, false, false, true, true, false, false, false, false, false, false] rfl rfl (any_of HT_.out (by kernel_rfl)) (fun _ _ _ h => h) (Or.inl ⟨by rfl, ?_⟩) ?_ ?_
                     rotate_left
                     ·
                      intro w'
                      go_simp
                      with_reducible rfl
                     rotate_left
                     ·
                      simp only [Act.put, List.setIfInBounds_toArray, List.set_cons_zero, List.set_cons_succ, i64_w, i32_w]
                      rfl
                     refine pure_ (i := 8) (N := some 46) (v := ?_) (a' := ?_) #[true, true, true, false, false, false, true, true, true, false, false, false, false, false] rfl rfl (any_of HT_.out (by kernel_rfl)) (fun _ _ _ h => h) (Or.inl ⟨by rfl, ?_⟩) ?_ ?_
                     rotate_left
                     ·
                      intro w'
                      go_simp
                      with_reducible rfl
                     rotate_left
                     ·
                      simp only [Act.put, List.setIfInBounds_toArray, List.set_cons_zero, List.set_cons_succ, i64_w, i32_w]
                      rfl
                     refine pure_ (i := 9) (N := some 47) (v := ?_) (a' := ?_) #[true, true, true, false, false, false, true, true, true, true, false, false, false, false] rfl rfl (any_of HT_.out (by kernel_rfl)) (fun _ _ _ h => h) (Or.inl ⟨by rfl, ?_⟩) ?_ ?_
                     rotate_left
                     ·
                      intro w'
                      go_simp
                      with_reducible rfl
                     rotate_left
                     ·
                      simp only [Act.put, List.setIfInBounds_toArray, List.set_cons_zero, List.set_cons_succ, i64_w, i32_w]
                      rfl
                     refine take_ (i := 3) (N := some 41) (v := ?_) (a' := ?_) #[true, true, true, true, false, false, true, true, true, true, false, false, false, false] rfl rfl (take_ofW HT_.out HW_.out (by kernel_rfl)) (fun _ _ _ h => h) (Or.inl ⟨by rfl, ?_⟩) hHeld ?_ ?_
                     rotate_left
                     ·
                      rintro w' ⟨s0, s1, s2, s3⟩
                      go_simp
                      with_reducible rfl
                     rotate_left
                     ·
                      simp only [Act.put, List.setIfInBounds_toArray, List.set_cons_zero, List.set_cons_succ, i64_w, i32_w]
                      rfl
                     refine pure_ (i := 4) (N := some 42) (v := ?_) (a' := ?_) #[true, true, true, true, true, false, true, true, true, true, false, false, false, false] rfl rfl (any_of HT_.out (by kernel_rfl)) (fun _ _ _ h => h) (Or.inl ⟨by rfl, ?_⟩) ?_ ?_
                     rotate_left
                     ·
                      intro w'
                      go_simp
                      with_reducible rfl
                     rotate_left
                     ·
                      simp only [Act.put, List.setIfInBounds_toArray, List.set_cons_zero, List.set_cons_succ, i64_w, i32_w]
                      rfl
                     refine take_ (i := 5) (N := some 43) (v := ?_) (a' := ?_) #[true, true, true, true, true, true, true, true, true, true, false, false, false, false] rfl rfl (take_ofW HT_.out HW_.out (by kernel_rfl)) (fun _ _ _ h => h) (Or.inl ⟨by rfl, ?_⟩) hHeld ?_ ?_
                     rotate_left
                     ·
                      rintro w' ⟨s0, s1, s2, s3⟩
                      go_simp
                      with_reducible rfl
                     rotate_left
                     ·
                      simp only [Act.put, List.setIfInBounds_toArray, List.set_cons_zero, List.set_cons_succ, i64_w, i32_w]
                      rfl
                     refine take_ (i := 10) (N := some 48) (v := ?_) (a' := ?_) #[true, true, true, true, true, true, true, true, true, true, true, false, false, false] rfl rfl (take_ofW HT_.out HW_.out (by kernel_rfl)) (fun _ _ _ h => h) (Or.inl ⟨by rfl, ?_⟩) hHeld ?_ ?_
                     rotate_left
                     ·
                      rintro w' ⟨s0, s1, s2, s3⟩
                      go_simp
                      with_reducible rfl
                     rotate_left
                     ·
                      simp only [Act.put, List.setIfInBounds_toArray, List.set_cons_zero, List.set_cons_succ, i64_w, i32_w]
                      rfl
                     refine pure_ (i := 11) (N := some 49) (v := ?_) (a' := ?_) #[true, true, true, true, true, true, true, true, true, true, true, true, false, false] rfl rfl (any_of HT_.out (by kernel_rfl)) (fun _ _ _ h => h) (Or.inl ⟨by rfl, ?_⟩) ?_ ?_
                     rotate_left
                     ·
                      intro w'
                      go_simp
                      with_reducible rfl
                     rotate_left
                     ·
                      simp only [Act.put, List.setIfInBounds_toArray, List.set_cons_zero, List.set_cons_succ, i64_w, i32_w]
                      rfl
                     refine take_ (i := 12) (N := some 50) (v := ?_) (a' := ?_) #[true, true, true, true, true, true, true, true, true, true, true, true, true, false] rfl rfl (take_ofW HT_.out HW_.out (by kernel_rfl)) (fun _ _ _ h => h) (Or.inl ⟨by rfl, ?_⟩) hHeld ?_ ?_
                     rotate_left
                     ·
                      rintro w' ⟨s0, s1, s2, s3⟩
                      go_simp
                      with_reducible rfl
                     rotate_left
                     ·
                      simp only [Act.put, List.setIfInBounds_toArray, List.set_cons_zero, List.set_cons_succ, i64_w, i32_w]
                      rfl
                     refine pure_ (i := 13) (N := some 51) (v := ?_) (a' := ?_) #[true, true, true, true, true, true, true, true, true, true, true, true, true, true] rfl rfl (any_of HT_.out (by kernel_rfl)) (fun _ _ _ h => h) (Or.inl ⟨by rfl, ?_⟩) ?_ ?_
                     rotate_left
                     ·
                      intro w'
                      go_simp
                      with_reducible rfl
                     rotate_left
                     ·
                      simp only [Act.put, List.setIfInBounds_toArray, List.set_cons_zero, List.set_cons_succ, i64_w, i32_w]
                      rfl
                     refine done_ (done_of HT_.out (by kernel_rfl)) ?_
                     try go_wp2
                     go_roundg k3
                     case measure => have := HJ2.out; have := HJ22.out; have := HK3.out; omega
                     case rel => exact ⟨(x5_3), (wrap64 (x7_3 + 1)), (by first | rfl | (simp; done) | (simp [*]; done)), (by first | rfl | (simp; done) | (simp [*]; done)), H', ⟨by have := HJ2.out; have := HJ22.out; have := HK3.out; omega⟩, ⟨by (with_reducible repeat (first | refine blk_drewN ?_ _ | refine blk_drew ?_ | refine blk_alloc ?_ _)); exact BK244.out⟩, ⟨by repeat (first | (with_reducible first | exact HB.out | apply below_alloc | apply pw_below_drewN | apply below_drew1 | refine below_set ?_ GE244.out) | exact HB.out)⟩⟩
                    ·
                     rw [if_neg c34] at H
                     have c34b0 : ((rd (rd_L3 l1 x7_3) 0) == (rd (rd_L3 l1 (ji30)) 0)) = false := beq_eq_false_iff_ne.mpr c34
                     have c34b1 : ((rd (rd_L3 l1 x7_3) 0) != (rd (rd_L3 l1 (ji30)) 0)) = true := bne_iff_ne.mpr c34
                     obtain ⟨ji36, hji36⟩ : ∃ j_ : Int, (IntKind.u64.wrap (x7_3)) = j_ := ⟨_, rfl⟩
                     replace H : (if 0 ≤ (ji36) then (selfstabref29_Privileged.l0 k3 l1 (Go.bits .or .u32 x5_3 (shl .u32 1 (ji36))) (l1.length : Int) (wrap64 (x7_3 + 1))) else (none)) = some r := by first | (rw [hji36] at H; exact H) | (simp only [hji36] at H ⊢; exact H)
                     by_cases c37 : 0 ≤ (ji36)
                     ·
                      rw [if_pos c37] at H
                      have c37b0 := eq_true c37
                      have c37b1 : decide (0 ≤ (ji36)) = true := decide_eq_true c37
                      clear c37
                      obtain ⟨ji38, hji38⟩ : ∃ j_ : Int, (shl .u32 1 (ji36)) = j_ := ⟨_, rfl⟩
                      replace H : (selfstabref29_Privileged.l0 k3 l1 (Go.bits .or .u32 x5_3 (ji38)) (l1.length : Int) (wrap64 (x7_3 + 1))) = some r := by first | (rw [hji38] at H; exact H) | (simp only [hji38] at H ⊢; exact H)
                      have hji38_ : (IntKind.u32.wrap (1 * 2 ^ min (ji36).toNat 32)) = ji38 := hji38
                      have hji38z : (ji36) ≤ 32 → (IntKind.u32.wrap (1 * 2 ^ (ji36).toNat)) = ji38 := shl_small hji38
                      have hji38u : (IntKind.u32.wrap (2 ^ min (ji36).toNat 32)) = ji38 := by have h_ := hji38_; rw [Int.one_mul] at h_; exact h_
                      have hji38v : (ji36) ≤ 32 → (IntKind.u32.wrap (2 ^ (ji36).toNat)) = ji38 := fun hle_ => by have h_ := hji38z hle_; rw [Int.one_mul] at h_; exact h_
                      have H' := Aside0.mk H
                      clear H
                      try go_wp2
                      have n0_ := Aside0.mk (blk_drew BK244.out)
                      have n1_ := Aside0.mk (below_drew1 HB.out)
                      clear BK244
                      clear HB
                      have BK244 := n0_
                      have HB := n1_
                      clear n0_ n1_
                      have p254 : 0 ≤ (x7_3 : Int) := of_decide_eq_true (by first | (with_reducible assumption) | assumption)
                      have q254 : x7_3 < (l1.length : Int) := of_decide_eq_true (by first | (with_reducible assumption) | assumption)
                      obtain ⟨ad254, A254_0, c254_0, e254, hx254_0, hl254_0, hi254_0⟩ := at_L3 HR1.out x7_3 p254 q254
                      have hw254_0 := hx254_0
                      obtain rfl : ad250 = ad254 := (by injection e254)
                      replace hx254_0 := (HB.out.cell (World.block_lt_of_cell? w _ hx254_0)).trans hx254_0
                      have HR254_0 := Aside0.mk hi254_0
                      have HC254_0 := Aside0.mk hl254_0
                      clear hi254_0 hl254_0
                      replace p254 := eq_true p254
                      replace q254 := eq_true q254
                      have p255 : 0 ≤ (0 : Int) := (by omega)
                      have q255 : 0 < ((rd_L3 l1 x7_3).length : Int) := of_decide_eq_true (by first | (with_reducible assumption) | assumption)
                      obtain ⟨ad255, e255, hx255_0⟩ := Kd.at_int HR254_0.out 0 p255 q255
                      have hw255_0 := hx255_0
                      (try rw [show ((0 : Int)).toNat = 0 from rfl] at hw255_0)
                      (try rw [show 0 * 1 = 0 from rfl] at hw255_0)
                      (try rw [Addr.add_zero'] at hw255_0)
                      cases e255
                      have qi255 : (0 < (rd_L3 l1 x7_3).length) = True := eq_true (by omega)
                      (try rw [show ((0 : Int)).toNat = 0 from rfl] at hx255_0)
                      (try rw [Addr.add_zero'] at hx255_0)
                      replace hx255_0 := (HB.out.cell (World.block_lt_of_cell? w _ hx255_0)).trans hx255_0
                      replace p255 := eq_true p255
                      replace q255 := eq_true q255
                      have p256 : 0 ≤ ((ji30) : Int) := of_decide_eq_true (by first | (with_reducible assumption) | assumption)
                      have q256 : (ji30) < (l1.length : Int) := of_decide_eq_true (by first | (with_reducible assumption) | assumption)
                      obtain ⟨ad256, A256_0, c256_0, e256, hx256_0, hl256_0, hi256_0⟩ := at_L3 HR1.out (ji30) p256 q256
                      have hw256_0 := hx256_0
                      obtain rfl : ad250 = ad256 := (by injection e256)
                      replace hx256_0 := (HB.out.cell (World.block_lt_of_cell? w _ hx256_0)).trans hx256_0
                      have HR256_0 := Aside0.mk hi256_0
                      have HC256_0 := Aside0.mk hl256_0
                      clear hi256_0 hl256_0
                      replace p256 := eq_true p256
                      replace q256 := eq_true q256
                      have p257 : 0 ≤ (0 : Int) := (by omega)
                      have q257 : 0 < ((rd_L3 l1 (ji30)).length : Int) := of_decide_eq_true (by first | (with_reducible assumption) | assumption)
                      obtain ⟨ad257, e257, hx257_0⟩ := Kd.at_int HR256_0.out 0 p257 q257
                      have hw257_0 := hx257_0
                      (try rw [show ((0 : Int)).toNat = 0 from rfl] at hw257_0)
                      (try rw [show 0 * 1 = 0 from rfl] at hw257_0)
                      (try rw [Addr.add_zero'] at hw257_0)
                      cases e257
                      have qi257 : (0 < (rd_L3 l1 (ji30)).length) = True := eq_true (by omega)
                      (try rw [show ((0 : Int)).toNat = 0 from rfl] at hx257_0)
                      (try rw [Addr.add_zero'] at hx257_0)
                      replace hx257_0 := (HB.out.cell (World.block_lt_of_cell? w _ hx257_0)).trans hx257_0
                      replace p257 := eq_true p257
                      replace q257 := eq_true q257
                      refine start_ (n := 14) (S := fun w' => w'.cell? (ad250.add (x7_3).toNat) = some (.slice (some ad255) (rd_L3 l1 x7_3).length c254_0) ∧ w'.cell? ad255 = some (.int .i64 (rd (rd_L3 l1 x7_3) 0)) ∧ w'.cell? (ad250.add ((ji30)).toNat) = some (.slice (some ad257) (rd_L3 l1 (ji30)).length c256_0) ∧ w'.cell? ad257 = some (.int .i64 (rd (rd_L3 l1 (ji30)) 0))) (ds := []) #[false, false, false, false, false, false, false, false, false, false, false, false, false, false] (by kernel_rfl) rfl rfl ⟨((HB.out.cell (World.block_lt_of_cell? w _ hw254_0)).trans hw254_0), ((HB.out.cell (World.block_lt_of_cell? w _ hw255_0)).trans hw255_0), ((HB.out.cell (World.block_lt_of_cell? w _ hw256_0)).trans hw256_0), ((HB.out.cell (World.block_lt_of_cell? w _ hw257_0)).trans hw257_0)⟩ (fun hHeld => ?_); refine with_tabW selfstabref29_Privileged.tab9 selfstabref29_Privileged.bits9 (fun HT_ HW_ => ?_)
                      generalize wr.drew = w39 at BK244 HB HR254_0 HR256_0 hx254_0 hx255_0 hx256_0 hx257_0 hHeld ⊢
                      refine pure_ (i := 0) (N := some 38) (v := ?_) (a' := ?_) #[true, false, false, false, false, false, false, false, false, false, false, false, false, false] rfl rfl (any_of HT_.out (by kernel_rfl)) (fun _ _ _ h => h) (Or.inl ⟨by rfl, ?_⟩) ?_ ?_
                      rotate_left
                      ·
                       intro w'
                       go_simp
                       with_reducible rfl
                      rotate_left
                      ·
                       simp only [Act.put, List.setIfInBounds_toArray, List.set_cons_zero, List.set_cons_succ, i64_w, i32_w]
                       rfl
                      refine pure_ (i := 1) (N := some 39) (v := ?_) (a' := ?_) #[true, true, false, false, false, false, false, false, false, false, false, false, false, false] rfl rfl (any_of HT_.out (by kernel_rfl)) (fun _ _ _ h => h) (Or.inl ⟨by rfl, ?_⟩) ?_ ?_
                      rotate_left
                      ·
                       intro w'
                       go_simp
                       with_reducible rfl
                      rotate_left
                      ·
                       simp only [Act.put, List.setIfInBounds_toArray, List.set_cons_zero, List.set_cons_succ, i64_w, i32_w]
                       rfl
                      refine pure_ (i := 2) (N := some 40) (v := ?_) (a' := ?_) #[true, true, true, false, false, false, false, false, false, false, false, false, false, false] rfl rfl (any_of HT_.out (by kernel_rfl)) (fun _ _ _ h => h) (Or.inl ⟨by rfl, ?_⟩) ?_ ?_
                      rotate_left
                      ·
                       intro w'
                       go_simp
                       with_reducible rfl
                      rotate_left
                      ·
                       simp only [Act.put, List.setIfInBounds_toArray, List.set_cons_zero, List.set_cons_succ, i64_w, i32_w]
                       rfl
                      refine pure_ (i := 6) (N := some 44) (v := ?_) (a' := ?_) #[true, true, true, false, false, false, true, false, false, false, false, false, false, false] rfl rfl (any_of HT_.out (by kernel_rfl)) (fun _ _ _ h => h) (Or.inl ⟨by rfl, ?_⟩) ?_ ?_
                      rotate_left
                      ·
                       intro w'
                       go_simp
                       with_reducible rfl
                      rotate_left
                      ·
                       simp only [Act.put, List.setIfInBounds_toArray, List.set_cons_zero, List.set_cons_succ, i64_w, i32_w]
                       rfl
                      refine pure_ (i := 7) (N := some 45) (v := ?_) (a' := ?_) #[true, true, true, false, false, false, true, true, false, false, false, false, false, false] rfl rfl (any_of HT_.out (by kernel_rfl)) (fun _ _ _ h => h) (Or.inl ⟨by rfl, ?_⟩) ?_ ?_
                      rotate_left
                      ·
                       intro w'
                       go_simp
                       with_reducible rfl
                      rotate_left
                      ·
                       simp only [Act.put, List.setIfInBounds_toArray, List.set_cons_zero, List.set_cons_succ, i64_w, i32_w]
                       rfl
                      refine pure_ (i := 8) (N := some 46) (v := ?_) (a' := ?_) #[true, true, true, false, false, false, true, true, true, false, false, false, false, false] rfl rfl (any_of HT_.out (by kernel_rfl)) (fun _ _ _ h => h) (Or.inl ⟨by rfl, ?_⟩) ?_ ?_
                      rotate_left
                      ·
                       intro w'
                       go_simp
                       with_reducible rfl
                      rotate_left
                      ·
                       simp only [Act.put, List.setIfInBounds_toArray, List.set_cons_zero, List.set_cons_succ, i64_w, i32_w]
                       rfl
                      refine pure_ (i := 9) (N := some 47) (v := ?_) (a' := ?_) #[true, true, true, false, false, false, true, true, true, true, false, false, false, false] rfl rfl (any_of HT_.out (by kernel_rfl)) (fun _ _ _ h => h) (Or.inl ⟨by rfl, ?_⟩) ?_ ?_
                      rotate_left
                      ·
                       intro w'
                       go_simp
                       with_reducible rfl
                      rotate_left
                      ·
                       simp only [Act.put, List.setIfInBounds_toArray, List.set_cons_zero, List.set_cons_succ, i64_w, i32_w]
                       rfl
                      refine take_ (i := 3) (N := some 41) (v := ?_) (a' := ?_) #[true, true, true, true, false, false, true, true, true, true, false, false, false, false] rfl rfl (take_ofW HT_.out HW_.out (by kernel_rfl)) (fun _ _ _ h => h) (Or.inl ⟨by rfl, ?_⟩) hHeld ?_ ?_
                      rotate_left
                      ·
                       rintro w' ⟨s0, s1, s2, s3⟩
                       go_simp
                       with_reducible rfl
                      rotate_left
                      ·
                       simp only [Act.put, List.setIfInBounds_toArray, List.set_cons_zero, List.set_cons_succ, i64_w, i32_w]
                       rfl
                      refine pure_ (i := 4) (N := some 42) (v := ?_) (a' := ?_) #[true, true, true, true, true, false, true, true, true, true, false, false, false, false] rfl rfl (any_of HT_.out (by kernel_rfl)) (fun _ _ _ h => h) (Or.inl ⟨by rfl, ?_⟩) ?_ ?_
                      rotate_left
                      ·
                       intro w'
                       go_simp
                       with_reducible rfl
                      rotate_left
                      ·
                       simp only [Act.put, List.setIfInBounds_toArray, List.set_cons_zero, List.set_cons_succ, i64_w, i32_w]
                       rfl
                      refine take_ (i := 5) (N := some 43) (v := ?_) (a' := ?_) #[true, true, true, true, true, true, true, true, true, true, false, false, false, false] rfl rfl (take_ofW HT_.out HW_.out (by kernel_rfl)) (fun _ _ _ h => h) (Or.inl ⟨by rfl, ?_⟩) hHeld ?_ ?_
                      rotate_left
                      ·
                       rintro w' ⟨s0, s1, s2, s3⟩
                       go_simp
                       with_reducible rfl
                      rotate_left
                      ·
                       simp only [Act.put, List.setIfInBounds_toArray, List.set_cons_zero, List.set_cons_succ, i64_w, i32_w]
                       rfl
                      refine take_ (i := 10) (N := some 48) (v := ?_) (a' := ?_) #[true, true, true, true, true, true, true, true, true, true, true, false, false, false] rfl rfl (take_ofW HT_.out HW_.out (by kernel_rfl)) (fun _ _ _ h => h) (Or.inl ⟨by rfl, ?_⟩) hHeld ?_ ?_
                      rotate_left
                      ·
                       rintro w' ⟨s0, s1, s2, s3⟩
                       go_simp
                       with_reducible rfl
                      rotate_left
                      ·
                       simp only [Act.put, List.setIfInBounds_toArray, List.set_cons_zero, List.set_cons_succ, i64_w, i32_w]
                       rfl
                      refine pure_ (i := 11) (N := some 49) (v := ?_) (a' := ?_) #[true, true, true, true, true, true, true, true, true, true, true, true, false, false] rfl rfl (any_of HT_.out (by kernel_rfl)) (fun _ _ _ h => h) (Or.inl ⟨by rfl, ?_⟩) ?_ ?_
                      rotate_left
                      ·
                       intro w'
                       go_simp
                       with_reducible rfl
                      rotate_left
                      ·
                       simp only [Act.put, List.setIfInBounds_toArray, List.set_cons_zero, List.set_cons_succ, i64_w, i32_w]
                       rfl
                      refine take_ (i := 12) (N := some 50) (v := ?_) (a' := ?_) #[true, true, true, true, true, true, true, true, true, true, true, true, true, false] rfl rfl (take_ofW HT_.out HW_.out (by kernel_rfl)) (fun _ _ _ h => h) (Or.inl ⟨by rfl, ?_⟩) hHeld ?_ ?_
                      rotate_left
                      ·
                       rintro w' ⟨s0, s1, s2, s3⟩
                       go_simp
                       with_reducible rfl
                      rotate_left
                      ·
                       simp only [Act.put, List.setIfInBounds_toArray, List.set_cons_zero, List.set_cons_succ, i64_w, i32_w]
                       rfl
                      refine pure_ (i := 13) (N := some 51) (v := ?_) (a' := ?_) #[true, true, true, true, true, true, true, true, true, true, true, true, true, true] rfl rfl (any_of HT_.out (by kernel_rfl)) (fun _ _ _ h => h) (Or.inl ⟨by rfl, ?_⟩) ?_ ?_
                      rotate_left
                      ·
                       intro w'
                       go_simp
                       with_reducible rfl
                      rotate_left
                      ·
                       simp only [Act.put, List.setIfInBounds_toArray, List.set_cons_zero, List.set_cons_succ, i64_w, i32_w]
                       rfl
                      refine done_ (done_of HT_.out (by kernel_rfl)) ?_
                      try go_wp2
                      go_roundg k3
                      case measure => have := HJ2.out; have := HJ22.out; have := HK3.out; omega
                      case rel => exact ⟨(Go.bits .or .u32 x5_3 (ji38)), (wrap64 (x7_3 + 1)), (by first | rfl | (simp; done) | (simp only [← hji38] <;> (first | rfl | simp)) | (simp [*]; done)), (by first | rfl | (simp; done) | (simp [*]; done)), H', ⟨by have := HJ2.out; have := HJ22.out; have := HK3.out; omega⟩, ⟨by (with_reducible repeat (first | refine blk_drewN ?_ _ | refine blk_drew ?_ | refine blk_alloc ?_ _)); exact BK244.out⟩, ⟨by repeat (first | (with_reducible first | exact HB.out | apply below_alloc | apply pw_below_drewN | apply below_drew1 | refine below_set ?_ GE244.out) | exact HB.out)⟩⟩
                     ·
                      rw [if_neg c37] at H
                      exact absurd H (by simp)
                   ·
                    rw [if_neg c33] at H
                    exact absurd H (by simp)
                  ·
                   rw [if_neg c32] at H
                   exact absurd H (by simp)
                 ·
                  rw [if_neg c31] at H
                  exact absurd H (by simp)
                ·
                 rw [if_neg c29] at H
                 exact absurd H (by simp)
               ·
                rw [if_neg c28] at H
                exact absurd H (by simp)
              ·
               rw [if_neg c27] at H
               exact absurd H (by simp)
             ·
              rw [if_neg c26] at H
              have c26b0 : decide (x7_3 < (l1.length : Int)) = false := decide_eq_false c26
              clear c26
              obtain rfl := Option.some.inj H
              go_wp2
              go_ret
              exact ⟨by first | rfl | (simp [errW_none, errW_some] <;> rfl) | (simp only [← hji19]; first | rfl | (simp [errW_none, errW_some] <;> rfl)) | (simp [*, errW_none, errW_some] <;> rfl), by repeat (first | (with_reducible first | exact HB.out | apply below_alloc | apply pw_below_drewN | apply below_drew1 | refine below_set ?_ GE244.out) | exact HB.out)⟩
        ·
         rw [if_neg c22] at H
         exact absurd H (by simp)
       ·
        rw [if_neg c21] at H
        exact absurd H (by simp)
      ·
       rw [if_neg c20] at H
       exact absurd H (by simp)
     ·
      rw [if_neg c18] at H
      exact absurd H (by simp)
    ·
     rw [if_neg c17] at H
     exact absurd H (by simp)
end Go.Proofs.YthapikakneikbaaG
namespace Go.Proofs.YthapikakneikbaaG
open Go.RowKit Go.Proofs.YthapikakneikbaaW.PrintWords Go.Proofs.YthapikakneikbaaW.PrintLast Go.Proofs.YthapikakneikbaaW.PrintMore
attribute [local go_sem] max2_int min2_int max_two min_two max_three min_three max_four min_four   -- for this text's walks alone
set_option linter.unusedVariables false
set_option linter.unusedSimpArgs false
attribute [local go_sem high] eqA44
/-! ### selfstablaw29_RingJudges: function 4 -/
def selfstablaw29_RingJudges.f (k : Nat) (l0_0 : List Int) (l0_1 : List (List (S60))) (l1 : List (List Int)) : Option (Bool) := (selfstablaw29_large.f l0_0 l0_1 l1).bind fun t259 => (if t259 = true then ((selfstablaw29_known.f k).bind fun t260 => (some t260)) else ((selfstablaw29_known.f k).bind fun t261 => (if t261 = true then ((ring_Fit.f k l0_0 l0_1).bind fun t262 => ((selfstabref29_Fit.f k l0_0 l0_1).bind fun t263 => (if (t262 == t263) = true then ((ring_Legit.f k l0_0 l0_1 l1).bind fun t264 => ((selfstabref29_Legit.f k l0_0 l0_1 l1).bind fun t265 => (if (t264 == t265) = true then ((ring_Claim.f k l0_0 l0_1).bind fun bt266 => ((selfstabref29_Claim.f k l0_0 l0_1).bind fun bt271 => (if (bt266.1 == bt271.1 && (bt266.2.1 == bt271.2.1 && (bt266.2.2.1 == bt271.2.2.1 && (bt266.2.2.2.1 == bt271.2.2.2.1 && (bt266.2.2.2.2 == bt271.2.2.2.2))))) = true then ((ring_Privileged.f k l0_0 l0_1 l1).bind fun t276 => ((selfstabref29_Privileged.f k l0_0 l0_1 l1).bind fun t277 => (some (t276 == t277)))) else (none)))) else (none)))) else (none)))) else (none))))
theorem selfstablaw29_RingJudges.mono : ∀ a0 a1 a2 k, LeO (selfstablaw29_RingJudges.f k a0 a1 a2) (selfstablaw29_RingJudges.f (k + 1) a0 a1 a2) := by
 intro a0 a1 a2 k
 unfold selfstablaw29_RingJudges.f
 repeat' first
   | (with_reducible exact ring_Claim.mono _ _ _)
   | (with_reducible exact ring_Fit.mono _ _ _)
   | (with_reducible exact ring_Legit.mono _ _ _ _)
   | (with_reducible exact ring_Privileged.mono _ _ _ _)
   | (with_reducible exact selfstablaw29_known.mono _)
   | (with_reducible exact selfstabref29_Claim.mono _ _ _)
   | (with_reducible exact selfstabref29_Fit.mono _ _ _)
   | (with_reducible exact selfstabref29_Legit.mono _ _ _ _)
   | (with_reducible exact selfstabref29_Privileged.mono _ _ _ _)
   | (with_reducible exact LeO.refl _)
   | (with_reducible exact LeO.none _)
   | (with_reducible refine LeO.ite ?_ ?_)
   | (with_reducible refine LeO.bind ?_ (fun _ => ?_))
   | exact ring_Claim.mono _ _ _
   | exact ring_Fit.mono _ _ _
   | exact ring_Legit.mono _ _ _ _
   | exact ring_Privileged.mono _ _ _ _
   | exact selfstablaw29_known.mono _
   | exact selfstabref29_Claim.mono _ _ _
   | exact selfstabref29_Fit.mono _ _ _
   | exact selfstabref29_Legit.mono _ _ _ _
   | exact selfstabref29_Privileged.mono _ _ _ _
   | exact LeO.none _
   | refine LeO.ite ?_ ?_
   | refine LeO.bind ?_ (fun _ => ?_)
def selfstablaw29_RingJudges.T3 : Bool × List (List Nat × List Nat) := (true, [([], []), ([0, 0], [0]), ([1], [1]), ([2, 1, 1], [1, 2]), ([1], [1]), ([4, 3, 1], [1, 4]), ([3, 5, 1], [1, 3, 5]), ([1, 6], [1, 6]), ([7, 5], [7]), ([8], [8]), ([8], [8]), ([9, 10, 8, 8], [8, 9, 10]), ([8], [8]), ([8], [8]), ([12, 13, 11, 8], [8, 12, 13]), ([11, 14, 8], [8, 11, 14]), ([8, 15], [8, 15]), ([16, 14], [16]), ([17], [17]), ([18, 17, 17], [17, 18]), ([17], [17]), ([20, 19, 17], [17, 20]), ([19, 21, 17], [17, 19, 21]), ([17, 22], [17, 22]), ([23, 21], [23]), ([24], [24]), ([24], [24]), ([25, 26, 24, 24], [24, 25, 26]), ([24], [24]), ([24], [24]), ([28, 29, 27, 24], [24, 28, 29]), ([27, 30, 24], [24, 27, 30]), ([24, 31], [24, 31]), ([32, 30, 0, 1, 2, 3, 4, 5, 6, 7, 8, 9, 10, 11, 12, 13, 14, 15, 16, 17, 18, 19, 20, 21, 22, 23, 24, 25, 26, 27, 28, 29, 30, 31, 32], [32])])
def selfstablaw29_RingJudges.B3 : List Nat := [0, 1, 3, 7, 3, 31, 63, 127, 255, 511, 511, 2047, 511, 511, 16383, 32767, 65535, 131071, 262143, 524287, 262143, 2097151, 4194303, 8388607, 16777215, 33554431, 33554431, 134217727, 33554431, 33554431, 1073741823, 2147483647, 4294967295, 8589934591]
theorem selfstablaw29_RingJudges.tab3 : rtab .any (opsOf Try.f4 3) = selfstablaw29_RingJudges.T3 := by kernel_rfl
theorem selfstablaw29_RingJudges.bits3 : waitsOk selfstablaw29_RingJudges.T3.2 selfstablaw29_RingJudges.B3 = true := by kernel_rfl
set_option maxHeartbeats 8000000 in
set_option maxRecDepth 100000 in
theorem selfstablaw29_RingJudges.calls (k : Nat) (A0_0 : Option Addr) (c0_0 : Nat) (l0_0 : List Int) (A0_1 : Option Addr) (c0_1 : Nat) (l0_1 : List (List (S60))) (A1 : Option Addr) (c1 : Nat) (l1 : List (List Int)) (r : Bool) (w : World) (hr0_0 : Kd.C (Kd.int .i64) w A0_0 l0_0.length l0_0) (hc0_0 : l0_0.length ≤ c0_0) (hr0_1 : Kd.C (Kd.slice 60 k60) w A0_1 l0_1.length l0_1) (hc0_1 : l0_1.length ≤ c0_1) (hr1 : Kd.C (Kd.slice 3 (Kd.int .i64)) w A1 l1.length l1) (hc1 : l1.length ≤ c1) (h : selfstablaw29_RingJudges.f k l0_0 l0_1 l1 = some r) :
  Calls Try.prog 4 #[.agg #[.slice A0_0 l0_0.length c0_0, .slice A0_1 l0_1.length c0_1], .slice A1 l1.length c1] w fun e w' => e = .returned (.bool r) ∧ Below w.heap.size w w' := by
 have hu27 := Try.underlying27
 have HR0_0 := Aside0.mk hr0_0
 have HC0_0 := Aside0.mk hc0_0
 clear hr0_0 hc0_0
 have HR0_1 := Aside0.mk hr0_1
 have HC0_1 := Aside0.mk hc0_1
 clear hr0_1 hc0_1
 have HR1 := Aside0.mk hr1
 have HC1 := Aside0.mk hc1
 clear hr1 hc1
 have HB := Aside0.mk (Below.refl w.heap.size w)
 have H : ((selfstablaw29_large.f l0_0 l0_1 l1).bind fun t259 => (if t259 = true then ((selfstablaw29_known.f k).bind fun t260 => (some t260)) else ((selfstablaw29_known.f k).bind fun t261 => (if t261 = true then ((ring_Fit.f k l0_0 l0_1).bind fun t262 => ((selfstabref29_Fit.f k l0_0 l0_1).bind fun t263 => (if (t262 == t263) = true then ((ring_Legit.f k l0_0 l0_1 l1).bind fun t264 => ((selfstabref29_Legit.f k l0_0 l0_1 l1).bind fun t265 => (if (t264 == t265) = true then ((ring_Claim.f k l0_0 l0_1).bind fun bt266 => ((selfstabref29_Claim.f k l0_0 l0_1).bind fun bt271 => (if (bt266.1 == bt271.1 && (bt266.2.1 == bt271.2.1 && (bt266.2.2.1 == bt271.2.2.1 && (bt266.2.2.2.1 == bt271.2.2.2.1 && (bt266.2.2.2.2 == bt271.2.2.2.2))))) = true then ((ring_Privileged.f k l0_0 l0_1 l1).bind fun t276 => ((selfstabref29_Privileged.f k l0_0 l0_1 l1).bind fun t277 => (some (t276 == t277)))) else (none)))) else (none)))) else (none)))) else (none))))) = some r := h
 clear h
 replace H := Option.bind_eq_some_iff.mp H
 obtain ⟨t259, A30, H⟩ := H
 replace H : (if t259 = true then ((selfstablaw29_known.f k).bind fun t260 => (some t260)) else ((selfstablaw29_known.f k).bind fun t261 => (if t261 = true then ((ring_Fit.f k l0_0 l0_1).bind fun t262 => ((selfstabref29_Fit.f k l0_0 l0_1).bind fun t263 => (if (t262 == t263) = true then ((ring_Legit.f k l0_0 l0_1 l1).bind fun t264 => ((selfstabref29_Legit.f k l0_0 l0_1 l1).bind fun t265 => (if (t264 == t265) = true then ((ring_Claim.f k l0_0 l0_1).bind fun bt266 => ((selfstabref29_Claim.f k l0_0 l0_1).bind fun bt271 => (if (bt266.1 == bt271.1 && (bt266.2.1 == bt271.2.1 && (bt266.2.2.1 == bt271.2.2.1 && (bt266.2.2.2.1 == bt271.2.2.2.1 && (bt266.2.2.2.2 == bt271.2.2.2.2))))) = true then ((ring_Privileged.f k l0_0 l0_1 l1).bind fun t276 => ((selfstabref29_Privileged.f k l0_0 l0_1 l1).bind fun t277 => (some (t276 == t277)))) else (none)))) else (none)))) else (none)))) else (none)))) = some r := H
 have A3 := Aside0.mk A30
 clear A30
 by_cases c4 : t259 = true
 ·
  subst c4
  have H1 : ((selfstablaw29_known.f k).bind fun t260 => (some t260)) = some r := by rw [if_pos rfl] at H; exact H
  clear H
  have H := H1
  clear H1
  replace H := Option.bind_eq_some_iff.mp H
  obtain ⟨t260, A50, H⟩ := H
  replace H : (some t260) = some r := H
  have A5 := Aside0.mk A50
  clear A50
  obtain rfl := Option.some.inj H
  go_enter Try.func4, Try.ntmps4
  go_wp2_with (first | ((with_reducible refine gate_dst (N := 2) rfl ?_); refine box_event ?hg (N := 2) ?hd (cs := #[.slice A0_0 l0_0.length c0_0, .slice A0_1 l0_1.length c0_1]) (t := 27) ?hr ?_; (case hd => rfl); (case hg => rfl); (case hr => first | (go_simp; done) | (go_simp; rfl)); intro gb258 hg w6 hbox hb; have n0_ := Aside0.mk (below_step (by repeat (first | (with_reducible first | exact HB.out | apply below_alloc | apply pw_below_drewN | apply below_drew1) | exact HB.out)) hb); have n1_ := Aside0.mk (hbox); have n2_ := Aside0.mk ((by rw [hg]; exact (below_size (by repeat (first | (with_reducible first | exact HB.out | apply below_alloc | apply pw_below_drewN | apply below_drew1) | exact HB.out))) : w.heap.size ≤ gb258)); have n3_ := Aside0.mk ((by rw [hg]; exact (below_size (by repeat (first | (with_reducible first | exact HB.out | apply below_alloc | apply pw_below_drewN | apply below_drew1) | exact HB.out))) : w.heap.size ≤ gb258)); clear HB; have HB := n0_; have BK258 := n1_; have GW258 := n2_; have GE258 := n3_; clear n0_ n1_ n2_ n3_; clear hb hbox hg; have hcz7_0 : w6.cell? ⟨gb258, 0, none⟩ = some (.slice A0_0 l0_0.length c0_0) := (blk_cell BK258.out 0).trans rfl; have hcz7_1 : w6.cell? ⟨gb258, 1, none⟩ = some (.slice A0_1 l0_1.length c0_1) := (blk_cell BK258.out 1).trans rfl; have hfz7_0 := blk_frozen BK258.out 0; have hfz7_1 := blk_frozen BK258.out 1) | ((with_reducible refine gate_callee (f := 19) rfl ?_); refine goesL_ (some 7) rfl rfl Try.func19 (by kernel_rfl) rfl #[.agg #[.slice A0_0 l0_0.length c0_0, .slice A0_1 l0_1.length c0_1], .slice A1 l1.length c1] rfl (by (try simp only [List.map_toArray, List.map_cons, List.map_nil]); first | done | rfl | (simp only [List.length_drop, List.length_take]; rfl)) ?_; (with_reducible refine (selfstablaw29_large.calls _ _ l0_0 _ _ l0_1 _ _ l1 true _ ?side1 ?side2 ?side3 ?side4 ?side5 ?side6 A3.out).mono ?_); (case side1 => repeat (first | exact (Kd.C_below HR0_0.out HB.out) | (with_reducible refine Kd.C_alloc ?_ _) | (with_reducible refine Kd.C_drewN ?_ _) | (with_reducible refine Kd.C_drew ?_))); (case side2 => exact HC0_0.out); (case side3 => repeat (first | exact (Kd.C_below HR0_1.out HB.out) | (with_reducible refine Kd.C_alloc ?_ _) | (with_reducible refine Kd.C_drewN ?_ _) | (with_reducible refine Kd.C_drew ?_))); (case side4 => exact HC0_1.out); (case side5 => repeat (first | exact (Kd.C_below HR1.out HB.out) | (with_reducible refine Kd.C_alloc ?_ _) | (with_reducible refine Kd.C_drewN ?_ _) | (with_reducible refine Kd.C_drew ?_))); (case side6 => exact HC1.out); rintro e w8 ⟨rfl, hb⟩; refine ⟨_, rfl, ?_⟩; have n0_ := Aside0.mk (blk_below (g := gb258) (o := .cells #[.slice A0_0 l0_0.length c0_0, .slice A0_1 l0_1.length c0_1] 27 (0, 0)) (by (with_reducible repeat (first | refine blk_drewN ?_ _ | refine blk_drew ?_ | refine blk_alloc ?_ _)); exact BK258.out) hb); have n1_ := Aside0.mk (below_step (by repeat (first | (with_reducible first | exact HB.out | apply below_alloc | apply pw_below_drewN | apply below_drew1 | refine below_set ?_ GE258.out) | exact HB.out)) hb); clear BK258; clear HB; have BK258 := n0_; have HB := n1_; clear n0_ n1_; (try clear hb); (try clear hb2); (try clear hk); (try clear hi)) | ((with_reducible refine gate_callee (f := 20) rfl ?_); refine goesL_ (some 8) rfl rfl Try.func20 (by kernel_rfl) rfl #[] rfl (by (try simp only [List.map_toArray, List.map_cons, List.map_nil]); first | done | rfl | (simp only [List.length_drop, List.length_take]; rfl)) ?_; (with_reducible refine (selfstablaw29_known.calls k  t260 _ A5.out).mono ?_); rintro e w9 ⟨rfl, hb⟩; refine ⟨_, rfl, ?_⟩; have n0_ := Aside0.mk (blk_below (g := gb258) (o := .cells #[.slice A0_0 l0_0.length c0_0, .slice A0_1 l0_1.length c0_1] 27 (0, 0)) (by (with_reducible repeat (first | refine blk_drewN ?_ _ | refine blk_drew ?_ | refine blk_alloc ?_ _)); exact BK258.out) hb); have n1_ := Aside0.mk (below_step (by repeat (first | (with_reducible first | exact HB.out | apply below_alloc | apply pw_below_drewN | apply below_drew1 | refine below_set ?_ GE258.out) | exact HB.out)) hb); clear BK258; clear HB; have BK258 := n0_; have HB := n1_; clear n0_ n1_; (try clear hb); (try clear hb2); (try clear hk); (try clear hi)))
  go_ret
  exact ⟨by first | rfl | (simp [errW_none, errW_some] <;> rfl) | (simp [*, errW_none, errW_some] <;> rfl), by repeat (first | (with_reducible first | exact HB.out | apply below_alloc | apply pw_below_drewN | apply below_drew1 | refine below_set ?_ GE258.out) | exact HB.out)⟩
 ·
  replace c4 := Bool.eq_false_iff.mpr c4
  subst c4
  have H1 : ((selfstablaw29_known.f k).bind fun t261 => (if t261 = true then ((ring_Fit.f k l0_0 l0_1).bind fun t262 => ((selfstabref29_Fit.f k l0_0 l0_1).bind fun t263 => (if (t262 == t263) = true then ((ring_Legit.f k l0_0 l0_1 l1).bind fun t264 => ((selfstabref29_Legit.f k l0_0 l0_1 l1).bind fun t265 => (if (t264 == t265) = true then ((ring_Claim.f k l0_0 l0_1).bind fun bt266 => ((selfstabref29_Claim.f k l0_0 l0_1).bind fun bt271 => (if (bt266.1 == bt271.1 && (bt266.2.1 == bt271.2.1 && (bt266.2.2.1 == bt271.2.2.1 && (bt266.2.2.2.1 == bt271.2.2.2.1 && (bt266.2.2.2.2 == bt271.2.2.2.2))))) = true then ((ring_Privileged.f k l0_0 l0_1 l1).bind fun t276 => ((selfstabref29_Privileged.f k l0_0 l0_1 l1).bind fun t277 => (some (t276 == t277)))) else (none)))) else (none)))) else (none)))) else (none))) = some r := by rw [if_neg (show ¬ (false = true) by decide)] at H; exact H
  clear H
  have H := H1
  clear H1
  replace H := Option.bind_eq_some_iff.mp H
  obtain ⟨t261, A100, H⟩ := H
  replace H : (if t261 = true then ((ring_Fit.f k l0_0 l0_1).bind fun t262 => ((selfstabref29_Fit.f k l0_0 l0_1).bind fun t263 => (if (t262 == t263) = true then ((ring_Legit.f k l0_0 l0_1 l1).bind fun t264 => ((selfstabref29_Legit.f k l0_0 l0_1 l1).bind fun t265 => (if (t264 == t265) = true then ((ring_Claim.f k l0_0 l0_1).bind fun bt266 => ((selfstabref29_Claim.f k l0_0 l0_1).bind fun bt271 => (if (bt266.1 == bt271.1 && (bt266.2.1 == bt271.2.1 && (bt266.2.2.1 == bt271.2.2.1 && (bt266.2.2.2.1 == bt271.2.2.2.1 && (bt266.2.2.2.2 == bt271.2.2.2.2))))) = true then ((ring_Privileged.f k l0_0 l0_1 l1).bind fun t276 => ((selfstabref29_Privileged.f k l0_0 l0_1 l1).bind fun t277 => (some (t276 == t277)))) else (none)))) else (none)))) else (none)))) else (none)) = some r := H
  have A10 := Aside0.mk A100
  clear A100
  by_cases c11 : t261 = true
  ·
   subst c11
   have H1 : ((ring_Fit.f k l0_0 l0_1).bind fun t262 => ((selfstabref29_Fit.f k l0_0 l0_1).bind fun t263 => (if (t262 == t263) = true then ((ring_Legit.f k l0_0 l0_1 l1).bind fun t264 => ((selfstabref29_Legit.f k l0_0 l0_1 l1).bind fun t265 => (if (t264 == t265) = true then ((ring_Claim.f k l0_0 l0_1).bind fun bt266 => ((selfstabref29_Claim.f k l0_0 l0_1).bind fun bt271 => (if (bt266.1 == bt271.1 && (bt266.2.1 == bt271.2.1 && (bt266.2.2.1 == bt271.2.2.1 && (bt266.2.2.2.1 == bt271.2.2.2.1 && (bt266.2.2.2.2 == bt271.2.2.2.2))))) = true then ((ring_Privileged.f k l0_0 l0_1 l1).bind fun t276 => ((selfstabref29_Privileged.f k l0_0 l0_1 l1).bind fun t277 => (some (t276 == t277)))) else (none)))) else (none)))) else (none)))) = some r := by rw [if_pos rfl] at H; exact H
   clear H
   have H := H1
   clear H1
   replace H := Option.bind_eq_some_iff.mp H
   obtain ⟨t262, A120, H⟩ := H
   replace H : ((selfstabref29_Fit.f k l0_0 l0_1).bind fun t263 => (if (t262 == t263) = true then ((ring_Legit.f k l0_0 l0_1 l1).bind fun t264 => ((selfstabref29_Legit.f k l0_0 l0_1 l1).bind fun t265 => (if (t264 == t265) = true then ((ring_Claim.f k l0_0 l0_1).bind fun bt266 => ((selfstabref29_Claim.f k l0_0 l0_1).bind fun bt271 => (if (bt266.1 == bt271.1 && (bt266.2.1 == bt271.2.1 && (bt266.2.2.1 == bt271.2.2.1 && (bt266.2.2.2.1 == bt271.2.2.2.1 && (bt266.2.2.2.2 == bt271.2.2.2.2))))) = true then ((ring_Privileged.f k l0_0 l0_1 l1).bind fun t276 => ((selfstabref29_Privileged.f k l0_0 l0_1 l1).bind fun t277 => (some (t276 == t277)))) else (none)))) else (none)))) else (none))) = some r := H
   have A12 := Aside0.mk A120
   clear A120
   replace H := Option.bind_eq_some_iff.mp H
   obtain ⟨t263, A130, H⟩ := H
   replace H : (if (t262 == t263) = true then ((ring_Legit.f k l0_0 l0_1 l1).bind fun t264 => ((selfstabref29_Legit.f k l0_0 l0_1 l1).bind fun t265 => (if (t264 == t265) = true then ((ring_Claim.f k l0_0 l0_1).bind fun bt266 => ((selfstabref29_Claim.f k l0_0 l0_1).bind fun bt271 => (if (bt266.1 == bt271.1 && (bt266.2.1 == bt271.2.1 && (bt266.2.2.1 == bt271.2.2.1 && (bt266.2.2.2.1 == bt271.2.2.2.1 && (bt266.2.2.2.2 == bt271.2.2.2.2))))) = true then ((ring_Privileged.f k l0_0 l0_1 l1).bind fun t276 => ((selfstabref29_Privileged.f k l0_0 l0_1 l1).bind fun t277 => (some (t276 == t277)))) else (none)))) else (none)))) else (none)) = some r := H
   have A13 := Aside0.mk A130
   clear A130
   by_cases c14 : (t262 == t263) = true
   ·
    rw [if_pos c14] at H
    have c14b0 : (t262 == t263) = true := c14
    (try (have c14b1 : decide (t262 = t263) = true := by simpa using c14))
    (try (have c14b2 : (t262 == t263) = true := by simpa using c14))
    clear c14
    replace H := Option.bind_eq_some_iff.mp H
    obtain ⟨t264, A150, H⟩ := H
    replace H : ((selfstabref29_Legit.f k l0_0 l0_1 l1).bind fun t265 => (if (t264 == t265) = true then ((ring_Claim.f k l0_0 l0_1).bind fun bt266 => ((selfstabref29_Claim.f k l0_0 l0_1).bind fun bt271 => (if (bt266.1 == bt271.1 && (bt266.2.1 == bt271.2.1 && (bt266.2.2.1 == bt271.2.2.1 && (bt266.2.2.2.1 == bt271.2.2.2.1 && (bt266.2.2.2.2 == bt271.2.2.2.2))))) = true then ((ring_Privileged.f k l0_0 l0_1 l1).bind fun t276 => ((selfstabref29_Privileged.f k l0_0 l0_1 l1).bind fun t277 => (some (t276 == t277)))) else (none)))) else (none))) = some r := H
    have A15 := Aside0.mk A150
    clear A150
    replace H := Option.bind_eq_some_iff.mp H
    obtain ⟨t265, A160, H⟩ := H
    replace H : (if (t264 == t265) = true then ((ring_Claim.f k l0_0 l0_1).bind fun bt266 => ((selfstabref29_Claim.f k l0_0 l0_1).bind fun bt271 => (if (bt266.1 == bt271.1 && (bt266.2.1 == bt271.2.1 && (bt266.2.2.1 == bt271.2.2.1 && (bt266.2.2.2.1 == bt271.2.2.2.1 && (bt266.2.2.2.2 == bt271.2.2.2.2))))) = true then ((ring_Privileged.f k l0_0 l0_1 l1).bind fun t276 => ((selfstabref29_Privileged.f k l0_0 l0_1 l1).bind fun t277 => (some (t276 == t277)))) else (none)))) else (none)) = some r := H
    have A16 := Aside0.mk A160
    clear A160
    by_cases c17 : (t264 == t265) = true
    ·
     rw [if_pos c17] at H
     have c17b0 : (t264 == t265) = true := c17
     (try (have c17b1 : decide (t264 = t265) = true := by simpa using c17))
     (try (have c17b2 : (t264 == t265) = true := by simpa using c17))
     clear c17
     replace H := Option.bind_eq_some_iff.mp H
     obtain ⟨⟨t266, t267, t268, t269, t270⟩, A180, H⟩ := H
     replace H : ((selfstabref29_Claim.f k l0_0 l0_1).bind fun bt271 => (if (t266 == bt271.1 && (t267 == bt271.2.1 && (t268 == bt271.2.2.1 && (t269 == bt271.2.2.2.1 && (t270 == bt271.2.2.2.2))))) = true then ((ring_Privileged.f k l0_0 l0_1 l1).bind fun t276 => ((selfstabref29_Privileged.f k l0_0 l0_1 l1).bind fun t277 => (some (t276 == t277)))) else (none))) = some r := H
     have A18 := Aside0.mk A180
     clear A180
     replace H := Option.bind_eq_some_iff.mp H
     obtain ⟨⟨t271, t272, t273, t274, t275⟩, A190, H⟩ := H
     replace H : (if (t266 == t271 && (t267 == t272 && (t268 == t273 && (t269 == t274 && (t270 == t275))))) = true then ((ring_Privileged.f k l0_0 l0_1 l1).bind fun t276 => ((selfstabref29_Privileged.f k l0_0 l0_1 l1).bind fun t277 => (some (t276 == t277)))) else (none)) = some r := H
     have A19 := Aside0.mk A190
     clear A190
     by_cases c20 : (t266 == t271 && (t267 == t272 && (t268 == t273 && (t269 == t274 && (t270 == t275))))) = true
     ·
      rw [if_pos c20] at H
      have c20b0 : (t266 == t271 && (t267 == t272 && (t268 == t273 && (t269 == t274 && (t270 == t275))))) = true := c20
      (try (have c20b1 : decide (t266 = t271 && (t267 == t272 && (t268 == t273 && (t269 == t274 && (t270 == t275))))) = true := by simpa using c20))
      (try (have c20b2 : (t266 == t271 && (t267 == t272 && (t268 == t273 && (t269 == t274 && (t270 == t275))))) = true := by simpa using c20))
      clear c20
      replace H := Option.bind_eq_some_iff.mp H
      obtain ⟨t276, A210, H⟩ := H
      replace H : ((selfstabref29_Privileged.f k l0_0 l0_1 l1).bind fun t277 => (some (t276 == t277))) = some r := H
      have A21 := Aside0.mk A210
      clear A210
      replace H := Option.bind_eq_some_iff.mp H
      obtain ⟨t277, A220, H⟩ := H
      replace H : (some (t276 == t277)) = some r := H
      have A22 := Aside0.mk A220
      clear A220
      obtain rfl := Option.some.inj H
      go_enter Try.func4, Try.ntmps4
      try go_wp2_with (first | ((with_reducible refine gate_dst (N := 2) rfl ?_); refine box_event ?hg (N := 2) ?hd (cs := #[.slice A0_0 l0_0.length c0_0, .slice A0_1 l0_1.length c0_1]) (t := 27) ?hr ?_; (case hd => rfl); (case hg => rfl); (case hr => first | (go_simp; done) | (go_simp; rfl)); intro gb258 hg w23 hbox hb; have n0_ := Aside0.mk (below_step (by repeat (first | (with_reducible first | exact HB.out | apply below_alloc | apply pw_below_drewN | apply below_drew1) | exact HB.out)) hb); have n1_ := Aside0.mk (hbox); have n2_ := Aside0.mk ((by rw [hg]; exact (below_size (by repeat (first | (with_reducible first | exact HB.out | apply below_alloc | apply pw_below_drewN | apply below_drew1) | exact HB.out))) : w.heap.size ≤ gb258)); have n3_ := Aside0.mk ((by rw [hg]; exact (below_size (by repeat (first | (with_reducible first | exact HB.out | apply below_alloc | apply pw_below_drewN | apply below_drew1) | exact HB.out))) : w.heap.size ≤ gb258)); clear HB; have HB := n0_; have BK258 := n1_; have GW258 := n2_; have GE258 := n3_; clear n0_ n1_ n2_ n3_; clear hb hbox hg; have hcz24_0 : w23.cell? ⟨gb258, 0, none⟩ = some (.slice A0_0 l0_0.length c0_0) := (blk_cell BK258.out 0).trans rfl; have hcz24_1 : w23.cell? ⟨gb258, 1, none⟩ = some (.slice A0_1 l0_1.length c0_1) := (blk_cell BK258.out 1).trans rfl; have hfz24_0 := blk_frozen BK258.out 0; have hfz24_1 := blk_frozen BK258.out 1) | ((with_reducible refine gate_callee (f := 19) rfl ?_); refine goesL_ (some 7) rfl rfl Try.func19 (by kernel_rfl) rfl #[.agg #[.slice A0_0 l0_0.length c0_0, .slice A0_1 l0_1.length c0_1], .slice A1 l1.length c1] rfl (by (try simp only [List.map_toArray, List.map_cons, List.map_nil]); first | done | rfl | (simp only [List.length_drop, List.length_take]; rfl)) ?_; (with_reducible refine (selfstablaw29_large.calls _ _ l0_0 _ _ l0_1 _ _ l1 false _ ?side1 ?side2 ?side3 ?side4 ?side5 ?side6 A3.out).mono ?_); (case side1 => repeat (first | exact (Kd.C_below HR0_0.out HB.out) | (with_reducible refine Kd.C_alloc ?_ _) | (with_reducible refine Kd.C_drewN ?_ _) | (with_reducible refine Kd.C_drew ?_))); (case side2 => exact HC0_0.out); (case side3 => repeat (first | exact (Kd.C_below HR0_1.out HB.out) | (with_reducible refine Kd.C_alloc ?_ _) | (with_reducible refine Kd.C_drewN ?_ _) | (with_reducible refine Kd.C_drew ?_))); (case side4 => exact HC0_1.out); (case side5 => repeat (first | exact (Kd.C_below HR1.out HB.out) | (with_reducible refine Kd.C_alloc ?_ _) | (with_reducible refine Kd.C_drewN ?_ _) | (with_reducible refine Kd.C_drew ?_))); (case side6 => exact HC1.out); rintro e w25 ⟨rfl, hb⟩; refine ⟨_, rfl, ?_⟩; have n0_ := Aside0.mk (blk_below (g := gb258) (o := .cells #[.slice A0_0 l0_0.length c0_0, .slice A0_1 l0_1.length c0_1] 27 (0, 0)) (by (with_reducible repeat (first | refine blk_drewN ?_ _ | refine blk_drew ?_ | refine blk_alloc ?_ _)); exact BK258.out) hb); have n1_ := Aside0.mk (below_step (by repeat (first | (with_reducible first | exact HB.out | apply below_alloc | apply pw_below_drewN | apply below_drew1 | refine below_set ?_ GE258.out) | exact HB.out)) hb); clear BK258; clear HB; have BK258 := n0_; have HB := n1_; clear n0_ n1_; (try clear hb); (try clear hb2); (try clear hk); (try clear hi)))
      have n0_ := Aside0.mk (blk_drew BK258.out)
      have n1_ := Aside0.mk (below_drew1 HB.out)
      clear BK258
      clear HB
      have BK258 := n0_
      have HB := n1_
      clear n0_ n1_
      refine start_ (n := 34) (S := fun w' => w'.cell? ⟨gb258, 0, none⟩ = some (.slice A0_0 l0_0.length c0_0) ∧ w'.cell? ⟨gb258, 1, none⟩ = some (.slice A0_1 l0_1.length c0_1)) (ds := []) #[false, false, false, false, false, false, false, false, false, false, false, false, false, false, false, false, false, false, false, false, false, false, false, false, false, false, false, false, false, false, false, false, false, false] (by kernel_rfl) rfl rfl ⟨(blk_cell BK258.out 0).trans rfl, (blk_cell BK258.out 1).trans rfl⟩ (fun hHeld => ?_); refine with_tabW selfstablaw29_RingJudges.tab3 selfstablaw29_RingJudges.bits3 (fun HT_ HW_ => ?_)
      generalize w25.drew = w26 at BK258 HB hHeld ⊢
      refine one_ (i := 0) (N := some 9) #[true, false, false, false, false, false, false, false, false, false, false, false, false, false, false, false, false, false, false, false, false, false, false, false, false, false, false, false, false, false, false, false, false, false] rfl rfl (one_of HT_.out (by kernel_rfl)) (by decide) (fun K hK => ?_)
      refine goes_ Try.func20 (by kernel_rfl) rfl #[] (by rfl) rfl rfl (by (try simp only [List.map_toArray, List.map_cons, List.map_nil]); first | done | rfl | (simp only [List.length_drop, List.length_take]; rfl)) ?_
      with_reducible refine (selfstablaw29_known.calls k  true _ A10.out).mono ?_
      rintro e w27 ⟨rfl, hb⟩
      refine ⟨_, rfl, ?_⟩
      have n0_ := Aside0.mk (blk_below (g := gb258) (o := .cells #[.slice A0_0 l0_0.length c0_0, .slice A0_1 l0_1.length c0_1] 27 (0, 0)) (by (with_reducible repeat (first | refine blk_drewN ?_ _ | refine blk_drew ?_ | refine blk_alloc ?_ _)); exact BK258.out) hb)
      have n1_ := Aside0.mk (below_step (by repeat (first | (with_reducible first | exact HB.out | apply below_alloc | apply pw_below_drewN | apply below_drew1 | refine below_set ?_ GE258.out) | exact HB.out)) hb)
      clear BK258
      clear HB
      have BK258 := n0_
      have HB := n1_
      clear n0_ n1_
      (try clear hb)
      (try clear hb2)
      (try clear hk)
      (try clear hi)
      refine hK.out _ _ ⟨(blk_cell BK258.out 0).trans rfl, (blk_cell BK258.out 1).trans rfl⟩ (fun hHeld => ?_)
      clear hK K
      refine norm_ (a' := ?_) ?_ ?_
      rotate_left
      ·
       show Act.put _ (some 9) _ = _
       simp only [Act.put, List.setIfInBounds_toArray, List.set_cons_zero, List.set_cons_succ, i64_w, i32_w]
       rfl
      refine pure_ (i := 1) (N := some 10) (v := ?_) (a' := ?_) #[true, true, false, false, false, false, false, false, false, false, false, false, false, false, false, false, false, false, false, false, false, false, false, false, false, false, false, false, false, false, false, false, false, false] rfl rfl (any_of HT_.out (by kernel_rfl)) (fun _ _ _ h => h) (Or.inl ⟨by rfl, ?_⟩) ?_ ?_
      rotate_left
      ·
       intro w'
       go_simp
       with_reducible rfl
      rotate_left
      ·
       simp only [Act.put, List.setIfInBounds_toArray, List.set_cons_zero, List.set_cons_succ, i64_w, i32_w]
       rfl
      refine take_ (i := 2) (N := some 11) (v := ?_) (a' := ?_) #[true, true, true, false, false, false, false, false, false, false, false, false, false, false, false, false, false, false, false, false, false, false, false, false, false, false, false, false, false, false, false, false, false, false] rfl rfl (take_ofW HT_.out HW_.out (by kernel_rfl)) (fun _ _ _ h => h) (Or.inl ⟨by rfl, ?_⟩) hHeld ?_ ?_
      rotate_left
      ·
       rintro w' ⟨s0, s1⟩
       go_simp
       with_reducible rfl
      rotate_left
      ·
       simp only [Act.put, List.setIfInBounds_toArray, List.set_cons_zero, List.set_cons_succ, i64_w, i32_w]
       rfl
      refine take_ (i := 4) (N := some 13) (v := ?_) (a' := ?_) #[true, true, true, false, true, false, false, false, false, false, false, false, false, false, false, false, false, false, false, false, false, false, false, false, false, false, false, false, false, false, false, false, false, false] rfl rfl (take_ofW HT_.out HW_.out (by kernel_rfl)) (fun _ _ _ h => h) (Or.inl ⟨by rfl, ?_⟩) hHeld ?_ ?_
      rotate_left
      ·
       rintro w' ⟨s0, s1⟩
       go_simp
       with_reducible rfl
      rotate_left
      ·
       simp only [Act.put, List.setIfInBounds_toArray, List.set_cons_zero, List.set_cons_succ, i64_w, i32_w]
       rfl
      refine one_ (i := 3) (N := some 12) #[true, true, true, true, true, false, false, false, false, false, false, false, false, false, false, false, false, false, false, false, false, false, false, false, false, false, false, false, false, false, false, false, false, false] rfl rfl (one_of HT_.out (by kernel_rfl)) (by decide) (fun K hK => ?_)
      refine goes_ Try.func21 (by kernel_rfl) rfl #[.agg #[.slice A0_0 l0_0.length c0_0, .slice A0_1 l0_1.length c0_1]] (by rfl) rfl rfl (by (try simp only [List.map_toArray, List.map_cons, List.map_nil]); first | done | rfl | (simp only [List.length_drop, List.length_take]; rfl)) ?_
      with_reducible refine (ring_Fit.calls k _ _ l0_0 _ _ l0_1 t262 _ ?side1 ?side2 ?side3 ?side4 A12.out).mono ?_
      (case side1 => repeat (first | exact (Kd.C_below HR0_0.out HB.out) | (with_reducible refine Kd.C_alloc ?_ _) | (with_reducible refine Kd.C_drewN ?_ _) | (with_reducible refine Kd.C_drew ?_)))
      (case side2 => exact HC0_0.out)
      (case side3 => repeat (first | exact (Kd.C_below HR0_1.out HB.out) | (with_reducible refine Kd.C_alloc ?_ _) | (with_reducible refine Kd.C_drewN ?_ _) | (with_reducible refine Kd.C_drew ?_)))
      (case side4 => exact HC0_1.out)
      rintro e w28 ⟨rfl, hb⟩
      refine ⟨_, rfl, ?_⟩
      have n0_ := Aside0.mk (blk_below (g := gb258) (o := .cells #[.slice A0_0 l0_0.length c0_0, .slice A0_1 l0_1.length c0_1] 27 (0, 0)) (by (with_reducible repeat (first | refine blk_drewN ?_ _ | refine blk_drew ?_ | refine blk_alloc ?_ _)); exact BK258.out) hb)
      have n1_ := Aside0.mk (below_step (by repeat (first | (with_reducible first | exact HB.out | apply below_alloc | apply pw_below_drewN | apply below_drew1 | refine below_set ?_ GE258.out) | exact HB.out)) hb)
      clear BK258
      clear HB
      have BK258 := n0_
      have HB := n1_
      clear n0_ n1_
      (try clear hb)
      (try clear hb2)
      (try clear hk)
      (try clear hi)
      refine hK.out _ _ ⟨(blk_cell BK258.out 0).trans rfl, (blk_cell BK258.out 1).trans rfl⟩ (fun hHeld => ?_)
      clear hK K
      refine norm_ (a' := ?_) ?_ ?_
      rotate_left
      ·
       show Act.put _ (some 12) _ = _
       simp only [Act.put, List.setIfInBounds_toArray, List.set_cons_zero, List.set_cons_succ, i64_w, i32_w]
       rfl
      refine one_ (i := 5) (N := some 14) #[true, true, true, true, true, true, false, false, false, false, false, false, false, false, false, false, false, false, false, false, false, false, false, false, false, false, false, false, false, false, false, false, false, false] rfl rfl (one_of HT_.out (by kernel_rfl)) (by decide) (fun K hK => ?_)
      refine goes_ Try.func22 (by kernel_rfl) rfl #[.agg #[.slice A0_0 l0_0.length c0_0, .slice A0_1 l0_1.length c0_1]] (by rfl) rfl rfl (by (try simp only [List.map_toArray, List.map_cons, List.map_nil]); first | done | rfl | (simp only [List.length_drop, List.length_take]; rfl)) ?_
      with_reducible refine (selfstabref29_Fit.calls k _ _ l0_0 _ _ l0_1 t263 _ ?side1 ?side2 ?side3 ?side4 A13.out).mono ?_
      (case side1 => repeat (first | exact (Kd.C_below HR0_0.out HB.out) | (with_reducible refine Kd.C_alloc ?_ _) | (with_reducible refine Kd.C_drewN ?_ _) | (with_reducible refine Kd.C_drew ?_)))
      (case side2 => exact HC0_0.out)
      (case side3 => repeat (first | exact (Kd.C_below HR0_1.out HB.out) | (with_reducible refine Kd.C_alloc ?_ _) | (with_reducible refine Kd.C_drewN ?_ _) | (with_reducible refine Kd.C_drew ?_)))
      (case side4 => exact HC0_1.out)
      rintro e w29 ⟨rfl, hb⟩
      refine ⟨_, rfl, ?_⟩
      have n0_ := Aside0.mk (blk_below (g := gb258) (o := .cells #[.slice A0_0 l0_0.length c0_0, .slice A0_1 l0_1.length c0_1] 27 (0, 0)) (by (with_reducible repeat (first | refine blk_drewN ?_ _ | refine blk_drew ?_ | refine blk_alloc ?_ _)); exact BK258.out) hb)
      have n1_ := Aside0.mk (below_step (by repeat (first | (with_reducible first | exact HB.out | apply below_alloc | apply pw_below_drewN | apply below_drew1 | refine below_set ?_ GE258.out) | exact HB.out)) hb)
      clear BK258
      clear HB
      have BK258 := n0_
      have HB := n1_
      clear n0_ n1_
      (try clear hb)
      (try clear hb2)
      (try clear hk)
      (try clear hi)
      refine hK.out _ _ ⟨(blk_cell BK258.out 0).trans rfl, (blk_cell BK258.out 1).trans rfl⟩ (fun hHeld => ?_)
      clear hK K
      refine norm_ (a' := ?_) ?_ ?_
      rotate_left
      ·
       show Act.put _ (some 14) _ = _
       simp only [Act.put, List.setIfInBounds_toArray, List.set_cons_zero, List.set_cons_succ, i64_w, i32_w]
       rfl
      refine pure_ (i := 6) (N := some 15) (v := ?_) (a' := ?_) #[true, true, true, true, true, true, true, false, false, false, false, false, false, false, false, false, false, false, false, false, false, false, false, false, false, false, false, false, false, false, false, false, false, false] rfl rfl (any_of HT_.out (by kernel_rfl)) (fun _ _ _ h => h) (Or.inl ⟨by rfl, ?_⟩) ?_ ?_
      rotate_left
      ·
       intro w'
       go_simp
       with_reducible rfl
      rotate_left
      ·
       simp only [Act.put, List.setIfInBounds_toArray, List.set_cons_zero, List.set_cons_succ, i64_w, i32_w]
       rfl
      refine pure_ (i := 7) (N := some 16) (v := ?_) (a' := ?_) #[true, true, true, true, true, true, true, true, false, false, false, false, false, false, false, false, false, false, false, false, false, false, false, false, false, false, false, false, false, false, false, false, false, false] rfl rfl (any_of HT_.out (by kernel_rfl)) (fun _ _ _ h => h) (Or.inl ⟨by rfl, ?_⟩) ?_ ?_
      rotate_left
      ·
       intro w'
       go_simp
       with_reducible rfl
      rotate_left
      ·
       simp only [Act.put, List.setIfInBounds_toArray, List.set_cons_zero, List.set_cons_succ, i64_w, i32_w]
       rfl
      refine pure_ (i := 8) (N := some 17) (v := ?_) (a' := ?_) #[true, true, true, true, true, true, true, true, true, false, false, false, false, false, false, false, false, false, false, false, false, false, false, false, false, false, false, false, false, false, false, false, false, false] rfl rfl (any_of HT_.out (by kernel_rfl)) (fun _ _ _ h => h) (Or.inl ⟨by rfl, ?_⟩) ?_ ?_
      rotate_left
      ·
       intro w'
       go_simp
       with_reducible rfl
      rotate_left
      ·
       simp only [Act.put, List.setIfInBounds_toArray, List.set_cons_zero, List.set_cons_succ, i64_w, i32_w]
       rfl
      refine pure_ (i := 10) (N := some 19) (v := ?_) (a' := ?_) #[true, true, true, true, true, true, true, true, true, false, true, false, false, false, false, false, false, false, false, false, false, false, false, false, false, false, false, false, false, false, false, false, false, false] rfl rfl (any_of HT_.out (by kernel_rfl)) (fun _ _ _ h => h) (Or.inl ⟨by rfl, ?_⟩) ?_ ?_
      rotate_left
      ·
       intro w'
       go_simp
       with_reducible rfl
      rotate_left
      ·
       simp only [Act.put, List.setIfInBounds_toArray, List.set_cons_zero, List.set_cons_succ, i64_w, i32_w]
       rfl
      refine pure_ (i := 13) (N := some 22) (v := ?_) (a' := ?_) #[true, true, true, true, true, true, true, true, true, false, true, false, false, true, false, false, false, false, false, false, false, false, false, false, false, false, false, false, false, false, false, false, false, false] rfl rfl (any_of HT_.out (by kernel_rfl)) (fun _ _ _ h => h) (Or.inl ⟨by rfl, ?_⟩) ?_ ?_
      rotate_left
      ·
       intro w'
       go_simp
       with_reducible rfl
      rotate_left
      ·
       simp only [Act.put, List.setIfInBounds_toArray, List.set_cons_zero, List.set_cons_succ, i64_w, i32_w]
       rfl
      refine take_ (i := 9) (N := some 18) (v := ?_) (a' := ?_) #[true, true, true, true, true, true, true, true, true, true, true, false, false, true, false, false, false, false, false, false, false, false, false, false, false, false, false, false, false, false, false, false, false, false] rfl rfl (take_ofW HT_.out HW_.out (by kernel_rfl)) (fun _ _ _ h => h) (Or.inl ⟨by rfl, ?_⟩) hHeld ?_ ?_
      rotate_left
      ·
       rintro w' ⟨s0, s1⟩
       go_simp
       with_reducible rfl
      rotate_left
      ·
       simp only [Act.put, List.setIfInBounds_toArray, List.set_cons_zero, List.set_cons_succ, i64_w, i32_w]
       rfl
      refine take_ (i := 12) (N := some 21) (v := ?_) (a' := ?_) #[true, true, true, true, true, true, true, true, true, true, true, false, true, true, false, false, false, false, false, false, false, false, false, false, false, false, false, false, false, false, false, false, false, false] rfl rfl (take_ofW HT_.out HW_.out (by kernel_rfl)) (fun _ _ _ h => h) (Or.inl ⟨by rfl, ?_⟩) hHeld ?_ ?_
      rotate_left
      ·
       rintro w' ⟨s0, s1⟩
       go_simp
       with_reducible rfl
      rotate_left
      ·
       simp only [Act.put, List.setIfInBounds_toArray, List.set_cons_zero, List.set_cons_succ, i64_w, i32_w]
       rfl
      refine one_ (i := 11) (N := some 20) #[true, true, true, true, true, true, true, true, true, true, true, true, true, true, false, false, false, false, false, false, false, false, false, false, false, false, false, false, false, false, false, false, false, false] rfl rfl (one_of HT_.out (by kernel_rfl)) (by decide) (fun K hK => ?_)
      refine goes_ Try.func23 (by kernel_rfl) rfl #[.agg #[.slice A0_0 l0_0.length c0_0, .slice A0_1 l0_1.length c0_1], .slice A1 l1.length c1] (by rfl) rfl rfl (by (try simp only [List.map_toArray, List.map_cons, List.map_nil]); first | done | rfl | (simp only [List.length_drop, List.length_take]; rfl)) ?_
      with_reducible refine (ring_Legit.calls k _ _ l0_0 _ _ l0_1 _ _ l1 t264 _ ?side1 ?side2 ?side3 ?side4 ?side5 ?side6 A15.out).mono ?_
      (case side1 => repeat (first | exact (Kd.C_below HR0_0.out HB.out) | (with_reducible refine Kd.C_alloc ?_ _) | (with_reducible refine Kd.C_drewN ?_ _) | (with_reducible refine Kd.C_drew ?_)))
      (case side2 => exact HC0_0.out)
      (case side3 => repeat (first | exact (Kd.C_below HR0_1.out HB.out) | (with_reducible refine Kd.C_alloc ?_ _) | (with_reducible refine Kd.C_drewN ?_ _) | (with_reducible refine Kd.C_drew ?_)))
      (case side4 => exact HC0_1.out)
      (case side5 => repeat (first | exact (Kd.C_below HR1.out HB.out) | (with_reducible refine Kd.C_alloc ?_ _) | (with_reducible refine Kd.C_drewN ?_ _) | (with_reducible refine Kd.C_drew ?_)))
      (case side6 => exact HC1.out)
      rintro e w30 ⟨rfl, hb⟩
      refine ⟨_, rfl, ?_⟩
      have n0_ := Aside0.mk (blk_below (g := gb258) (o := .cells #[.slice A0_0 l0_0.length c0_0, .slice A0_1 l0_1.length c0_1] 27 (0, 0)) (by (with_reducible repeat (first | refine blk_drewN ?_ _ | refine blk_drew ?_ | refine blk_alloc ?_ _)); exact BK258.out) hb)
      have n1_ := Aside0.mk (below_step (by repeat (first | (with_reducible first | exact HB.out | apply below_alloc | apply pw_below_drewN | apply below_drew1 | refine below_set ?_ GE258.out) | exact HB.out)) hb)
      clear BK258
      clear HB
      have BK258 := n0_
      have HB := n1_
      clear n0_ n1_
      (try clear hb)
      (try clear hb2)
      (try clear hk)
      (try clear hi)
      refine hK.out _ _ ⟨(blk_cell BK258.out 0).trans rfl, (blk_cell BK258.out 1).trans rfl⟩ (fun hHeld => ?_)
      clear hK K
      refine norm_ (a' := ?_) ?_ ?_
      rotate_left
      ·
       show Act.put _ (some 20) _ = _
       simp only [Act.put, List.setIfInBounds_toArray, List.set_cons_zero, List.set_cons_succ, i64_w, i32_w]
       rfl
      refine one_ (i := 14) (N := some 23) #[true, true, true, true, true, true, true, true, true, true, true, true, true, true, true, false, false, false, false, false, false, false, false, false, false, false, false, false, false, false, false, false, false, false] rfl rfl (one_of HT_.out (by kernel_rfl)) (by decide) (fun K hK => ?_)
      refine goes_ Try.func24 (by kernel_rfl) rfl #[.agg #[.slice A0_0 l0_0.length c0_0, .slice A0_1 l0_1.length c0_1], .slice A1 l1.length c1] (by rfl) rfl rfl (by (try simp only [List.map_toArray, List.map_cons, List.map_nil]); first | done | rfl | (simp only [List.length_drop, List.length_take]; rfl)) ?_
      with_reducible refine (selfstabref29_Legit.calls k _ _ l0_0 _ _ l0_1 _ _ l1 t265 _ ?side1 ?side2 ?side3 ?side4 ?side5 ?side6 A16.out).mono ?_
      (case side1 => repeat (first | exact (Kd.C_below HR0_0.out HB.out) | (with_reducible refine Kd.C_alloc ?_ _) | (with_reducible refine Kd.C_drewN ?_ _) | (with_reducible refine Kd.C_drew ?_)))
      (case side2 => exact HC0_0.out)
      (case side3 => repeat (first | exact (Kd.C_below HR0_1.out HB.out) | (with_reducible refine Kd.C_alloc ?_ _) | (with_reducible refine Kd.C_drewN ?_ _) | (with_reducible refine Kd.C_drew ?_)))
      (case side4 => exact HC0_1.out)
      (case side5 => repeat (first | exact (Kd.C_below HR1.out HB.out) | (with_reducible refine Kd.C_alloc ?_ _) | (with_reducible refine Kd.C_drewN ?_ _) | (with_reducible refine Kd.C_drew ?_)))
      (case side6 => exact HC1.out)
      rintro e w31 ⟨rfl, hb⟩
      refine ⟨_, rfl, ?_⟩
      have n0_ := Aside0.mk (blk_below (g := gb258) (o := .cells #[.slice A0_0 l0_0.length c0_0, .slice A0_1 l0_1.length c0_1] 27 (0, 0)) (by (with_reducible repeat (first | refine blk_drewN ?_ _ | refine blk_drew ?_ | refine blk_alloc ?_ _)); exact BK258.out) hb)
      have n1_ := Aside0.mk (below_step (by repeat (first | (with_reducible first | exact HB.out | apply below_alloc | apply pw_below_drewN | apply below_drew1 | refine below_set ?_ GE258.out) | exact HB.out)) hb)
      clear BK258
      clear HB
      have BK258 := n0_
      have HB := n1_
      clear n0_ n1_
      (try clear hb)
      (try clear hb2)
      (try clear hk)
      (try clear hi)
      refine hK.out _ _ ⟨(blk_cell BK258.out 0).trans rfl, (blk_cell BK258.out 1).trans rfl⟩ (fun hHeld => ?_)
      clear hK K
      refine norm_ (a' := ?_) ?_ ?_
      rotate_left
      ·
       show Act.put _ (some 23) _ = _
       simp only [Act.put, List.setIfInBounds_toArray, List.set_cons_zero, List.set_cons_succ, i64_w, i32_w]
       rfl
      refine pure_ (i := 15) (N := some 24) (v := ?_) (a' := ?_) #[true, true, true, true, true, true, true, true, true, true, true, true, true, true, true, true, false, false, false, false, false, false, false, false, false, false, false, false, false, false, false, false, false, false] rfl rfl (any_of HT_.out (by kernel_rfl)) (fun _ _ _ h => h) (Or.inl ⟨by rfl, ?_⟩) ?_ ?_
      rotate_left
      ·
       intro w'
       go_simp
       with_reducible rfl
      rotate_left
      ·
       simp only [Act.put, List.setIfInBounds_toArray, List.set_cons_zero, List.set_cons_succ, i64_w, i32_w]
       rfl
      refine pure_ (i := 16) (N := some 25) (v := ?_) (a' := ?_) #[true, true, true, true, true, true, true, true, true, true, true, true, true, true, true, true, true, false, false, false, false, false, false, false, false, false, false, false, false, false, false, false, false, false] rfl rfl (any_of HT_.out (by kernel_rfl)) (fun _ _ _ h => h) (Or.inl ⟨by rfl, ?_⟩) ?_ ?_
      rotate_left
      ·
       intro w'
       go_simp
       with_reducible rfl
      rotate_left
      ·
       simp only [Act.put, List.setIfInBounds_toArray, List.set_cons_zero, List.set_cons_succ, i64_w, i32_w]
       rfl
      refine pure_ (i := 17) (N := some 26) (v := ?_) (a' := ?_) #[true, true, true, true, true, true, true, true, true, true, true, true, true, true, true, true, true, true, false, false, false, false, false, false, false, false, false, false, false, false, false, false, false, false] rfl rfl (any_of HT_.out (by kernel_rfl)) (fun _ _ _ h => h) (Or.inl ⟨by rfl, ?_⟩) ?_ ?_
      rotate_left
      ·
       intro w'
       go_simp
       with_reducible rfl
      rotate_left
      ·
       simp only [Act.put, List.setIfInBounds_toArray, List.set_cons_zero, List.set_cons_succ, i64_w, i32_w]
       rfl
      refine take_ (i := 18) (N := some 27) (v := ?_) (a' := ?_) #[true, true, true, true, true, true, true, true, true, true, true, true, true, true, true, true, true, true, true, false, false, false, false, false, false, false, false, false, false, false, false, false, false, false] rfl rfl (take_ofW HT_.out HW_.out (by kernel_rfl)) (fun _ _ _ h => h) (Or.inl ⟨by rfl, ?_⟩) hHeld ?_ ?_
      rotate_left
      ·
       rintro w' ⟨s0, s1⟩
       go_simp
       with_reducible rfl
      rotate_left
      ·
       simp only [Act.put, List.setIfInBounds_toArray, List.set_cons_zero, List.set_cons_succ, i64_w, i32_w]
       rfl
      refine take_ (i := 20) (N := some 29) (v := ?_) (a' := ?_) #[true, true, true, true, true, true, true, true, true, true, true, true, true, true, true, true, true, true, true, false, true, false, false, false, false, false, false, false, false, false, false, false, false, false] rfl rfl (take_ofW HT_.out HW_.out (by kernel_rfl)) (fun _ _ _ h => h) (Or.inl ⟨by rfl, ?_⟩) hHeld ?_ ?_
      rotate_left
      ·
       rintro w' ⟨s0, s1⟩
       go_simp
       with_reducible rfl
      rotate_left
      ·
       simp only [Act.put, List.setIfInBounds_toArray, List.set_cons_zero, List.set_cons_succ, i64_w, i32_w]
       rfl
      refine one_ (i := 19) (N := some 28) #[true, true, true, true, true, true, true, true, true, true, true, true, true, true, true, true, true, true, true, true, true, false, false, false, false, false, false, false, false, false, false, false, false, false] rfl rfl (one_of HT_.out (by kernel_rfl)) (by decide) (fun K hK => ?_)
      refine goes_ Try.func25 (by kernel_rfl) rfl #[.agg #[.slice A0_0 l0_0.length c0_0, .slice A0_1 l0_1.length c0_1]] (by rfl) rfl rfl (by (try simp only [List.map_toArray, List.map_cons, List.map_nil]); first | done | rfl | (simp only [List.length_drop, List.length_take]; rfl)) ?_
      with_reducible refine (ring_Claim.calls k _ _ l0_0 _ _ l0_1 t266 t267 t268 t269 t270 _ ?side1 ?side2 ?side3 ?side4 A18.out).mono ?_
      (case side1 => repeat (first | exact (Kd.C_below HR0_0.out HB.out) | (with_reducible refine Kd.C_alloc ?_ _) | (with_reducible refine Kd.C_drewN ?_ _) | (with_reducible refine Kd.C_drew ?_)))
      (case side2 => exact HC0_0.out)
      (case side3 => repeat (first | exact (Kd.C_below HR0_1.out HB.out) | (with_reducible refine Kd.C_alloc ?_ _) | (with_reducible refine Kd.C_drewN ?_ _) | (with_reducible refine Kd.C_drew ?_)))
      (case side4 => exact HC0_1.out)
      rintro e w32 ⟨rfl, hb⟩
      refine ⟨_, rfl, ?_⟩
      have n0_ := Aside0.mk (blk_below (g := gb258) (o := .cells #[.slice A0_0 l0_0.length c0_0, .slice A0_1 l0_1.length c0_1] 27 (0, 0)) (by (with_reducible repeat (first | refine blk_drewN ?_ _ | refine blk_drew ?_ | refine blk_alloc ?_ _)); exact BK258.out) hb)
      have n1_ := Aside0.mk (below_step (by repeat (first | (with_reducible first | exact HB.out | apply below_alloc | apply pw_below_drewN | apply below_drew1 | refine below_set ?_ GE258.out) | exact HB.out)) hb)
      clear BK258
      clear HB
      have BK258 := n0_
      have HB := n1_
      clear n0_ n1_
      (try clear hb)
      (try clear hb2)
      (try clear hk)
      (try clear hi)
      refine hK.out _ _ ⟨(blk_cell BK258.out 0).trans rfl, (blk_cell BK258.out 1).trans rfl⟩ (fun hHeld => ?_)
      clear hK K
      refine norm_ (a' := ?_) ?_ ?_
      rotate_left
      ·
       show Act.put _ (some 28) _ = _
       simp only [Act.put, List.setIfInBounds_toArray, List.set_cons_zero, List.set_cons_succ, i64_w, i32_w]
       rfl
      refine one_ (i := 21) (N := some 30) #[true, true, true, true, true, true, true, true, true, true, true, true, true, true, true, true, true, true, true, true, true, true, false, false, false, false, false, false, false, false, false, false, false, false] rfl rfl (one_of HT_.out (by kernel_rfl)) (by decide) (fun K hK => ?_)
      refine goes_ Try.func26 (by kernel_rfl) rfl #[.agg #[.slice A0_0 l0_0.length c0_0, .slice A0_1 l0_1.length c0_1]] (by rfl) rfl rfl (by (try simp only [List.map_toArray, List.map_cons, List.map_nil]); first | done | rfl | (simp only [List.length_drop, List.length_take]; rfl)) ?_
      with_reducible refine (selfstabref29_Claim.calls k _ _ l0_0 _ _ l0_1 t271 t272 t273 t274 t275 _ ?side1 ?side2 ?side3 ?side4 A19.out).mono ?_
      (case side1 => repeat (first | exact (Kd.C_below HR0_0.out HB.out) | (with_reducible refine Kd.C_alloc ?_ _) | (with_reducible refine Kd.C_drewN ?_ _) | (with_reducible refine Kd.C_drew ?_)))
      (case side2 => exact HC0_0.out)
      (case side3 => repeat (first | exact (Kd.C_below HR0_1.out HB.out) | (with_reducible refine Kd.C_alloc ?_ _) | (with_reducible refine Kd.C_drewN ?_ _) | (with_reducible refine Kd.C_drew ?_)))
      (case side4 => exact HC0_1.out)
      rintro e w33 ⟨rfl, hb⟩
      refine ⟨_, rfl, ?_⟩
      have n0_ := Aside0.mk (blk_below (g := gb258) (o := .cells #[.slice A0_0 l0_0.length c0_0, .slice A0_1 l0_1.length c0_1] 27 (0, 0)) (by (with_reducible repeat (first | refine blk_drewN ?_ _ | refine blk_drew ?_ | refine blk_alloc ?_ _)); exact BK258.out) hb)
      have n1_ := Aside0.mk (below_step (by repeat (first | (with_reducible first | exact HB.out | apply below_alloc | apply pw_below_drewN | apply below_drew1 | refine below_set ?_ GE258.out) | exact HB.out)) hb)
      clear BK258
      clear HB
      have BK258 := n0_
      have HB := n1_
      clear n0_ n1_
      (try clear hb)
      (try clear hb2)
      (try clear hk)
      (try clear hi)
      refine hK.out _ _ ⟨(blk_cell BK258.out 0).trans rfl, (blk_cell BK258.out 1).trans rfl⟩ (fun hHeld => ?_)
      clear hK K
      refine norm_ (a' := ?_) ?_ ?_
      rotate_left
      ·
       show Act.put _ (some 30) _ = _
       simp only [Act.put, List.setIfInBounds_toArray, List.set_cons_zero, List.set_cons_succ, i64_w, i32_w]
       rfl
      refine pure_ (i := 22) (N := some 31) (v := ?_) (a' := ?_) #[true, true, true, true, true, true, true, true, true, true, true, true, true, true, true, true, true, true, true, true, true, true, true, false, false, false, false, false, false, false, false, false, false, false] rfl rfl (any_of HT_.out (by kernel_rfl)) (fun _ _ _ h => h) (Or.inl ⟨by rfl, ?_⟩) ?_ ?_
      rotate_left
      ·
       intro w'
       go_simp
       with_reducible rfl
      rotate_left
      ·
       simp only [Act.put, List.setIfInBounds_toArray, List.set_cons_zero, List.set_cons_succ, i64_w, i32_w]
       rfl
      refine pure_ (i := 23) (N := some 32) (v := ?_) (a' := ?_) #[true, true, true, true, true, true, true, true, true, true, true, true, true, true, true, true, true, true, true, true, true, true, true, true, false, false, false, false, false, false, false, false, false, false] rfl rfl (any_of HT_.out (by kernel_rfl)) (fun _ _ _ h => h) (Or.inl ⟨by rfl, ?_⟩) ?_ ?_
      rotate_left
      ·
       intro w'
       go_simp
       with_reducible rfl
      rotate_left
      ·
       simp only [Act.put, List.setIfInBounds_toArray, List.set_cons_zero, List.set_cons_succ, i64_w, i32_w]
       rfl
      refine pure_ (i := 24) (N := some 33) (v := ?_) (a' := ?_) #[true, true, true, true, true, true, true, true, true, true, true, true, true, true, true, true, true, true, true, true, true, true, true, true, true, false, false, false, false, false, false, false, false, false] rfl rfl (any_of HT_.out (by kernel_rfl)) (fun _ _ _ h => h) (Or.inl ⟨by rfl, ?_⟩) ?_ ?_
      rotate_left
      ·
       intro w'
       go_simp
       with_reducible rfl
      rotate_left
      ·
       simp only [Act.put, List.setIfInBounds_toArray, List.set_cons_zero, List.set_cons_succ, i64_w, i32_w]
       rfl
      refine pure_ (i := 26) (N := some 35) (v := ?_) (a' := ?_) #[true, true, true, true, true, true, true, true, true, true, true, true, true, true, true, true, true, true, true, true, true, true, true, true, true, false, true, false, false, false, false, false, false, false] rfl rfl (any_of HT_.out (by kernel_rfl)) (fun _ _ _ h => h) (Or.inl ⟨by rfl, ?_⟩) ?_ ?_
      rotate_left
      ·
       intro w'
       go_simp
       with_reducible rfl
      rotate_left
      ·
       simp only [Act.put, List.setIfInBounds_toArray, List.set_cons_zero, List.set_cons_succ, i64_w, i32_w]
       rfl
      refine pure_ (i := 29) (N := some 38) (v := ?_) (a' := ?_) #[true, true, true, true, true, true, true, true, true, true, true, true, true, true, true, true, true, true, true, true, true, true, true, true, true, false, true, false, false, true, false, false, false, false] rfl rfl (any_of HT_.out (by kernel_rfl)) (fun _ _ _ h => h) (Or.inl ⟨by rfl, ?_⟩) ?_ ?_
      rotate_left
      ·
       intro w'
       go_simp
       with_reducible rfl
      rotate_left
      ·
       simp only [Act.put, List.setIfInBounds_toArray, List.set_cons_zero, List.set_cons_succ, i64_w, i32_w]
       rfl
      refine take_ (i := 25) (N := some 34) (v := ?_) (a' := ?_) #[true, true, true, true, true, true, true, true, true, true, true, true, true, true, true, true, true, true, true, true, true, true, true, true, true, true, true, false, false, true, false, false, false, false] rfl rfl (take_ofW HT_.out HW_.out (by kernel_rfl)) (fun _ _ _ h => h) (Or.inl ⟨by rfl, ?_⟩) hHeld ?_ ?_
      rotate_left
      ·
       rintro w' ⟨s0, s1⟩
       go_simp
       with_reducible rfl
      rotate_left
      ·
       simp only [Act.put, List.setIfInBounds_toArray, List.set_cons_zero, List.set_cons_succ, i64_w, i32_w]
       rfl
      refine take_ (i := 28) (N := some 37) (v := ?_) (a' := ?_) #[true, true, true, true, true, true, true, true, true, true, true, true, true, true, true, true, true, true, true, true, true, true, true, true, true, true, true, false, true, true, false, false, false, false] rfl rfl (take_ofW HT_.out HW_.out (by kernel_rfl)) (fun _ _ _ h => h) (Or.inl ⟨by rfl, ?_⟩) hHeld ?_ ?_
      rotate_left
      ·
       rintro w' ⟨s0, s1⟩
       go_simp
       with_reducible rfl
      rotate_left
      ·
       simp only [Act.put, List.setIfInBounds_toArray, List.set_cons_zero, List.set_cons_succ, i64_w, i32_w]
       rfl
      refine one_ (i := 27) (N := some 36) #[true, true, true, true, true, true, true, true, true, true, true, true, true, true, true, true, true, true, true, true, true, true, true, true, true, true, true, true, true, true, false, false, false, false] rfl rfl (one_of HT_.out (by kernel_rfl)) (by decide) (fun K hK => ?_)
      refine goes_ Try.func27 (by kernel_rfl) rfl #[.agg #[.slice A0_0 l0_0.length c0_0, .slice A0_1 l0_1.length c0_1], .slice A1 l1.length c1] (by rfl) rfl rfl (by (try simp only [List.map_toArray, List.map_cons, List.map_nil]); first | done | rfl | (simp only [List.length_drop, List.length_take]; rfl)) ?_
      with_reducible refine (ring_Privileged.calls k _ _ l0_0 _ _ l0_1 _ _ l1 t276 _ ?side1 ?side2 ?side3 ?side4 ?side5 ?side6 A21.out).mono ?_
      (case side1 => repeat (first | exact (Kd.C_below HR0_0.out HB.out) | (with_reducible refine Kd.C_alloc ?_ _) | (with_reducible refine Kd.C_drewN ?_ _) | (with_reducible refine Kd.C_drew ?_)))
      (case side2 => exact HC0_0.out)
      (case side3 => repeat (first | exact (Kd.C_below HR0_1.out HB.out) | (with_reducible refine Kd.C_alloc ?_ _) | (with_reducible refine Kd.C_drewN ?_ _) | (with_reducible refine Kd.C_drew ?_)))
      (case side4 => exact HC0_1.out)
      (case side5 => repeat (first | exact (Kd.C_below HR1.out HB.out) | (with_reducible refine Kd.C_alloc ?_ _) | (with_reducible refine Kd.C_drewN ?_ _) | (with_reducible refine Kd.C_drew ?_)))
      (case side6 => exact HC1.out)
      rintro e w34 ⟨rfl, hb⟩
      refine ⟨_, rfl, ?_⟩
      have n0_ := Aside0.mk (blk_below (g := gb258) (o := .cells #[.slice A0_0 l0_0.length c0_0, .slice A0_1 l0_1.length c0_1] 27 (0, 0)) (by (with_reducible repeat (first | refine blk_drewN ?_ _ | refine blk_drew ?_ | refine blk_alloc ?_ _)); exact BK258.out) hb)
      have n1_ := Aside0.mk (below_step (by repeat (first | (with_reducible first | exact HB.out | apply below_alloc | apply pw_below_drewN | apply below_drew1 | refine below_set ?_ GE258.out) | exact HB.out)) hb)
      clear BK258
      clear HB
      have BK258 := n0_
      have HB := n1_
      clear n0_ n1_
      (try clear hb)
      (try clear hb2)
      (try clear hk)
      (try clear hi)
      refine hK.out _ _ ⟨(blk_cell BK258.out 0).trans rfl, (blk_cell BK258.out 1).trans rfl⟩ (fun hHeld => ?_)
      clear hK K
      refine norm_ (a' := ?_) ?_ ?_
      rotate_left
      ·
       show Act.put _ (some 36) _ = _
       simp only [Act.put, List.setIfInBounds_toArray, List.set_cons_zero, List.set_cons_succ, i64_w, i32_w]
       rfl
      refine one_ (i := 30) (N := some 39) #[true, true, true, true, true, true, true, true, true, true, true, true, true, true, true, true, true, true, true, true, true, true, true, true, true, true, true, true, true, true, true, false, false, false] rfl rfl (one_of HT_.out (by kernel_rfl)) (by decide) (fun K hK => ?_)
      refine goes_ Try.func28 (by kernel_rfl) rfl #[.agg #[.slice A0_0 l0_0.length c0_0, .slice A0_1 l0_1.length c0_1], .slice A1 l1.length c1] (by rfl) rfl rfl (by (try simp only [List.map_toArray, List.map_cons, List.map_nil]); first | done | rfl | (simp only [List.length_drop, List.length_take]; rfl)) ?_
      with_reducible refine (selfstabref29_Privileged.calls k _ _ l0_0 _ _ l0_1 _ _ l1 t277 _ ?side1 ?side2 ?side3 ?side4 ?side5 ?side6 A22.out).mono ?_
      (case side1 => repeat (first | exact (Kd.C_below HR0_0.out HB.out) | (with_reducible refine Kd.C_alloc ?_ _) | (with_reducible refine Kd.C_drewN ?_ _) | (with_reducible refine Kd.C_drew ?_)))
      (case side2 => exact HC0_0.out)
      (case side3 => repeat (first | exact (Kd.C_below HR0_1.out HB.out) | (with_reducible refine Kd.C_alloc ?_ _) | (with_reducible refine Kd.C_drewN ?_ _) | (with_reducible refine Kd.C_drew ?_)))
      (case side4 => exact HC0_1.out)
      (case side5 => repeat (first | exact (Kd.C_below HR1.out HB.out) | (with_reducible refine Kd.C_alloc ?_ _) | (with_reducible refine Kd.C_drewN ?_ _) | (with_reducible refine Kd.C_drew ?_)))
      (case side6 => exact HC1.out)
      rintro e w35 ⟨rfl, hb⟩
      refine ⟨_, rfl, ?_⟩
      have n0_ := Aside0.mk (blk_below (g := gb258) (o := .cells #[.slice A0_0 l0_0.length c0_0, .slice A0_1 l0_1.length c0_1] 27 (0, 0)) (by (with_reducible repeat (first | refine blk_drewN ?_ _ | refine blk_drew ?_ | refine blk_alloc ?_ _)); exact BK258.out) hb)
      have n1_ := Aside0.mk (below_step (by repeat (first | (with_reducible first | exact HB.out | apply below_alloc | apply pw_below_drewN | apply below_drew1 | refine below_set ?_ GE258.out) | exact HB.out)) hb)
      clear BK258
      clear HB
      have BK258 := n0_
      have HB := n1_
      clear n0_ n1_
      (try clear hb)
      (try clear hb2)
      (try clear hk)
      (try clear hi)
      refine hK.out _ _ ⟨(blk_cell BK258.out 0).trans rfl, (blk_cell BK258.out 1).trans rfl⟩ (fun hHeld => ?_)
      clear hK K
      refine norm_ (a' := ?_) ?_ ?_
      rotate_left
      ·
       show Act.put _ (some 39) _ = _
       simp only [Act.put, List.setIfInBounds_toArray, List.set_cons_zero, List.set_cons_succ, i64_w, i32_w]
       rfl
      refine pure_ (i := 31) (N := some 40) (v := ?_) (a' := ?_) #[true, true, true, true, true, true, true, true, true, true, true, true, true, true, true, true, true, true, true, true, true, true, true, true, true, true, true, true, true, true, true, true, false, false] rfl rfl (any_of HT_.out (by kernel_rfl)) (fun _ _ _ h => h) (Or.inl ⟨by rfl, ?_⟩) ?_ ?_
      rotate_left
      ·
       intro w'
       go_simp
       with_reducible rfl
      rotate_left
      ·
       simp only [Act.put, List.setIfInBounds_toArray, List.set_cons_zero, List.set_cons_succ, i64_w, i32_w]
       rfl
      refine pure_ (i := 32) (N := some 41) (v := ?_) (a' := ?_) #[true, true, true, true, true, true, true, true, true, true, true, true, true, true, true, true, true, true, true, true, true, true, true, true, true, true, true, true, true, true, true, true, true, false] rfl rfl (any_of HT_.out (by kernel_rfl)) (fun _ _ _ h => h) (Or.inl ⟨by rfl, ?_⟩) ?_ ?_
      rotate_left
      ·
       intro w'
       go_simp
       with_reducible rfl
      rotate_left
      ·
       simp only [Act.put, List.setIfInBounds_toArray, List.set_cons_zero, List.set_cons_succ, i64_w, i32_w]
       rfl
      refine pure_ (i := 33) (N := some 4) (v := ?_) (a' := ?_) #[true, true, true, true, true, true, true, true, true, true, true, true, true, true, true, true, true, true, true, true, true, true, true, true, true, true, true, true, true, true, true, true, true, true] rfl rfl (any_of HT_.out (by kernel_rfl)) (fun _ _ _ h => h) (Or.inl ⟨by rfl, ?_⟩) ?_ ?_
      rotate_left
      ·
       intro w'
       go_simp
       with_reducible rfl
      rotate_left
      ·
       simp only [Act.put, List.setIfInBounds_toArray, List.set_cons_zero, List.set_cons_succ, i64_w, i32_w]
       rfl
      refine done_ (done_of HT_.out (by kernel_rfl)) ?_
      try go_wp2
      go_ret
      exact ⟨by first | rfl | (simp [errW_none, errW_some] <;> rfl) | (simp [*, errW_none, errW_some] <;> rfl), by repeat (first | (with_reducible first | exact HB.out | apply below_alloc | apply pw_below_drewN | apply below_drew1 | refine below_set ?_ GE258.out) | exact HB.out)⟩
     ·
      rw [if_neg c20] at H
      exact absurd H (by simp)
    ·
     rw [if_neg c17] at H
     exact absurd H (by simp)
   ·
    rw [if_neg c14] at H
    exact absurd H (by simp)
  ·
   replace c11 := Bool.eq_false_iff.mpr c11
   subst c11
   have H1 : (none) = some r := by rw [if_neg (show ¬ (false = true) by decide)] at H; exact H
   clear H
   have H := H1
   clear H1
   exact absurd H (by simp)
end Go.Proofs.YthapikakneikbaaG
/-
  Plain laws of ring: what the service computes is what its reference says, for any graph and any lists.
-/
namespace Go.Proofs.YthapikakneikbaaG
open Go.RowKit Go.Proofs.YthapikakneikbaaW.PrintWords Go.Proofs.YthapikakneikbaaW.PrintMore
open Go.Proofs.Ythapikakneikbaa (holdsB confB bitsOf bitsOf_lt bitsOf_small testBit_bitsOf)
section
variable {ids : List Int} {p : List (List S60)} {c : List (List Int)}
/-- The links of node v lead to its neighbours in the ring. -/
def ringOK (p : List (List S60)) (v : Nat) : Bool := match p.getD v [] with
  | [a, b] => decide (a.f0 = (((v + p.length - 1) % p.length : Nat) : Int)) && decide (b.f0 = (((v + 1) % p.length : Nat) : Int))
  | _ => false
def ringFit (ids : List Int) (p : List (List S60)) : Bool := decide (3 ≤ p.length) && (toG ids p).valid && (List.range p.length).all (ringOK p)
theorem all_no {q : Nat → Bool} {n i : Nat} (hi : i < n) (h : q i = false) : (List.range n).all q = false := by
  rw [List.all_eq_false]
  exact ⟨i, List.mem_range.2 hi, by simp [h]⟩
theorem all_up {q : Nat → Bool} {i : Nat} : (List.range (i + 1)).all q = ((List.range i).all q && q i) := by
  rw [List.range_succ, List.all_append]
  simp
theorem mod_code {v n : Nat} (hn : n ≤ 24) (hv : v < n) : Int.tmod (wrap64 (wrap64 ((v : Int) + (n : Int)) - 1)) (n : Int) = (((v + n - 1) % n : Nat) : Int) ∧ Int.tmod (wrap64 ((v : Int) + 1)) (n : Int) = (((v + 1) % n : Nat) : Int) := by
  have e : (v : Int) + (n : Int) - 1 = ((v + n - 1 : Nat) : Int) := by omega
  rw [wrap_id (x := (v : Int) + (n : Int)) (by omega) (by omega), wrap_id (by omega) (by omega), wrap_id (by omega) (by omega), e]
  exact ⟨rfl, rfl⟩
/-- What one round of both loops over the nodes asks. -/
theorem ring_round {v : Nat} (hn : p.length ≤ 24) (hv : v < p.length) {α : Type} (yes no : Option α) :
    (if ((p.getD v []).length : Int) = 2 then (if 0 < ((p.getD v []).length : Int) then (if (p.length : Int) = 0 then none else (if (rd_T60 (p.getD v []) 0).f0 = Int.tmod (wrap64 (wrap64 ((v : Int) + (p.length : Int)) - 1)) (p.length : Int) then (if 1 < ((p.getD v []).length : Int) then (if (rd_T60 (p.getD v []) 1).f0 = Int.tmod (wrap64 ((v : Int) + 1)) (p.length : Int) then yes else no) else none) else no)) else none) else no)
      = if ringOK p v then yes else no := by
  obtain ⟨e1, e2⟩ := mod_code (n := p.length) hn hv
  rw [e1, e2]
  unfold ringOK
  match hr : p.getD v [] with
  | [] => simp
  | [a] => simp
  | a :: b :: d :: r =>
    show _ = if false = true then yes else no
    rw [if_neg (by simp; omega), if_neg (by simp)]
  | [a, b] =>
    have h0 : rd_T60 [a, b] 0 = a := rfl
    have h1 : rd_T60 [a, b] 1 = b := rfl
    show _ = if (decide (a.f0 = (((v + p.length - 1) % p.length : Nat) : Int)) && decide (b.f0 = (((v + 1) % p.length : Nat) : Int))) = true then yes else no
    rw [if_pos (by simp), if_pos (by simp), if_neg (by omega), h0, h1, if_pos (show (1 : Int) < (([a, b] : List S60).length : Int) by simp)]
    by_cases q0 : a.f0 = (((v + p.length - 1) % p.length : Nat) : Int)
    · by_cases q1 : b.f0 = (((v + 1) % p.length : Nat) : Int)
      · rw [if_pos q0, if_pos q1, decide_eq_true q0, decide_eq_true q1]; rfl
      · rw [if_pos q0, if_neg q1, decide_eq_true q0, decide_eq_false q1]; rfl
    · rw [if_neg q0, decide_eq_false q0]; rfl
theorem fit_l0 (hn : p.length ≤ 24) : ∀ m v, m + v = p.length → (List.range v).all (ringOK p) = true → Ev (fun k => ring_Fit.l0 k (p.length : Int) (p.length : Int) (v : Int) ids p) ((List.range p.length).all (ringOK p)) := by
  intro m
  induction m with
  | zero =>
    intro v hm h
    obtain rfl : v = p.length := by omega
    refine Ev.step (f := fun _ => some true) (fun k => ?_) (Ev.some' h.symm)
    rw [ring_Fit.l0, if_neg (by omega)]
  | succ m ih =>
    intro v hm h
    have hv : v < p.length := by omega
    have key : ∀ k, ring_Fit.l0 (k + 1) (p.length : Int) (p.length : Int) (v : Int) ids p = if ringOK p v then ring_Fit.l0 k (p.length : Int) (p.length : Int) ((v + 1 : Nat) : Int) ids p else some false := fun k => by
      rw [ring_Fit.l0, if_pos (by omega), if_pos (by omega), if_pos (by omega), rdPorts_nat, ring_round hn hv, wrap_id (by omega) (by omega)]
      rfl
    refine Ev.step key ?_
    cases hq : ringOK p v with
    | true => exact Ev.congr (fun k => if_pos rfl) (ih (v + 1) (by omega) (by rw [all_up, h, hq]; rfl))
    | false => exact Ev.congr (f := fun _ => some false) (fun k => if_neg (by simp)) (Ev.some' (all_no hv hq).symm)
theorem rfit_l0 (hn : p.length ≤ 24) : ∀ m v, m + v = p.length → (List.range v).all (ringOK p) = true → Ev (fun k => selfstabref29_Fit.l0 k (p.length : Int) (v : Int) ids p) ((List.range p.length).all (ringOK p)) := by
  intro m
  induction m with
  | zero =>
    intro v hm h
    obtain rfl : v = p.length := by omega
    refine Ev.step (f := fun _ => some true) (fun k => ?_) (Ev.some' h.symm)
    rw [selfstabref29_Fit.l0, if_neg (by omega)]
  | succ m ih =>
    intro v hm h
    have hv : v < p.length := by omega
    have key : ∀ k, selfstabref29_Fit.l0 (k + 1) (p.length : Int) (v : Int) ids p = if ringOK p v then selfstabref29_Fit.l0 k (p.length : Int) ((v + 1 : Nat) : Int) ids p else some false := fun k => by
      rw [selfstabref29_Fit.l0, if_pos (by omega), if_pos (by omega), if_pos (by omega), rdPorts_nat, ring_round hn hv, wrap_id (by omega) (by omega)]
      rfl
    refine Ev.step key ?_
    cases hq : ringOK p v with
    | true => exact Ev.congr (fun k => if_pos rfl) (ih (v + 1) (by omega) (by rw [all_up, h, hq]; rfl))
    | false => exact Ev.congr (f := fun _ => some false) (fun k => if_neg (by simp)) (Ev.some' (all_no hv hq).symm)
theorem fit_ev (ids : List Int) (p : List (List S60)) : Ev (fun k => ring_Fit.f k ids p) (ringFit ids p) := by
  unfold ring_Fit.f graph_Valid.f ringFit
  by_cases h3 : (p.length : Int) < 3
  · rw [decide_eq_false (by omega), Bool.false_and, Bool.false_and]
    refine Ev.congr (fun k => if_pos h3) (Ev.step (f := fun _ => some false) (fun k => ?_) Ev.some)
    rw [ring_Fit.j0, if_pos rfl]
  · rw [decide_eq_true (show 3 ≤ p.length by omega), Bool.true_and]
    refine Ev.congr (fun k => by rw [if_neg h3, Option.bind_some]) (f := fun k => ring_Fit.j0 k (p.length : Int) (!(toG ids p).valid) ids p) ?_
    cases hv : (toG ids p).valid with
    | false =>
      refine Ev.step (f := fun _ => some false) (fun k => ?_) Ev.some
      rw [ring_Fit.j0, if_pos (show (!false) = true from rfl)]
    | true =>
      have hs := valid_size hv
      refine Ev.step (fun k => ?_) (fit_l0 (ids := ids) hs.2.1 p.length 0 (by omega) rfl)
      rw [ring_Fit.j0, if_neg (by simp)]
      rfl
theorem rfit_ev (ids : List Int) (p : List (List S60)) : Ev (fun k => selfstabref29_Fit.f k ids p) (ringFit ids p) := by
  unfold selfstabref29_Fit.f selfstabref01_Valid.f ringFit
  have no : Ev (fun k => selfstabref29_Fit.j0 k (p.length : Int) true ids p) false := Ev.step (f := fun _ => some false) (fun k => by rw [selfstabref29_Fit.j0, if_pos rfl]) Ev.some
  cases hv : (toG ids p).valid with
  | false =>
    rw [Bool.and_false, Bool.false_and]
    exact Ev.congr (fun k => by rw [Option.bind_some, if_neg (by simp)]) no
  | true =>
    have hs := valid_size hv
    refine Ev.congr (fun k => by rw [Option.bind_some, if_pos rfl]) (f := fun k => selfstabref29_Fit.j0 k (p.length : Int) (decide ((p.length : Int) < 3)) ids p) ?_
    by_cases h3 : (p.length : Int) < 3
    · rw [decide_eq_true h3, decide_eq_false (show ¬ 3 ≤ p.length by omega)]
      exact no
    · rw [decide_eq_false h3, decide_eq_true (show 3 ≤ p.length by omega), Bool.true_and, Bool.true_and]
      refine Ev.step (fun k => ?_) (rfit_l0 (ids := ids) hs.2.1 p.length 0 (by omega) rfl)
      rw [selfstabref29_Fit.j0, if_neg (by simp)]
      rfl
def ringConf (ids : List Int) (p : List (List S60)) (c : List (List Int)) : Bool := ringFit ids p && holdsB (toG ids p) c [(p.length : Int)]
theorem ringFit_valid (h : ringFit ids p = true) : (toG ids p).valid = true ∧ 3 ≤ p.length := by
  unfold ringFit at h
  rw [Bool.and_eq_true, Bool.and_eq_true, decide_eq_true_eq] at h
  exact ⟨h.1.2, h.1.1⟩
theorem ringConf_rows (h : ringConf ids p c = true) : (toG ids p).valid = true ∧ 3 ≤ p.length ∧ c.length = p.length ∧ c.length ≤ 24 ∧ ∀ v, v < c.length → (c.getD v []).length = 1 := by
  unfold ringConf at h
  rw [Bool.and_eq_true] at h
  obtain ⟨h1, h2⟩ := ringFit_valid h.1
  obtain ⟨h3, h4⟩ := holds_rows h.2
  rw [toG_len] at h3
  have := valid_size h1
  exact ⟨h1, h2, h3, by omega, fun v hv => (h4 v hv).1⟩
theorem rconf_ev : Ev (fun k => ring_configuration.f k ids p c) (ringConf ids p c) := by
  unfold ring_configuration.f ringConf
  refine Ev.bind (fit_ev ids p) ?_
  cases ringFit ids p with
  | false => exact Ev.congr (f := fun _ => some false) (fun k => by rw [if_neg (by simp)]) Ev.some
  | true => exact Ev.congr (f := fun _ => some (holdsB (toG ids p) c [(p.length : Int)])) (fun k => by rw [if_pos rfl]; rfl) (Ev.some' (Bool.true_and _).symm)
/-- The value of node v. -/
def val1 (c : List (List Int)) (v : Nat) : Int := (c.getD v []).getD 0 0
/-- How many of the nodes 1 .. i - 1 differ from their predecessor. -/
def diffS (c : List (List Int)) : Nat → Nat
  | 0 => 0
  | i + 1 => if 1 ≤ i ∧ val1 c i ≠ val1 c (i - 1) then diffS c i + 1 else diffS c i
theorem diffS_le (c : List (List Int)) (i : Nat) : diffS c i ≤ i := by
  induction i with
  | zero => exact Nat.le_refl _
  | succ i ih => unfold diffS; split <;> omega
theorem val_rd {v : Nat} : rd (rd_L3 c (v : Int)) 0 = val1 c v := by
  rw [rdRow_nat]
  rfl
theorem differ_l0 (hc : c.length ≤ 24) (hr : ∀ v, v < c.length → (c.getD v []).length = 1) : ∀ m i, m + i = c.length → 1 ≤ i →
    Ev (fun k => ring_differ.l0 k c (diffS c i : Nat) (i : Int)) ((diffS c c.length : Nat) : Int) ∧ Ev (fun k => selfstabref29_Legit.l0 k c (diffS c i : Nat) (i : Int)) (decide (((diffS c c.length : Nat) : Int) ≤ 1)) := by
  intro m
  induction m with
  | zero =>
    intro i hm h1
    obtain rfl : i = c.length := by omega
    refine ⟨Ev.step (f := fun _ => some _) (fun k => ?_) Ev.some, Ev.step (f := fun _ => some _) (fun k => ?_) Ev.some⟩
    · rw [ring_differ.l0, if_neg (by omega)]
    · rw [selfstabref29_Legit.l0, if_neg (by omega)]
  | succ m ih =>
    intro i hm h1
    obtain ⟨g1, g2⟩ := ih (i + 1) (by omega) (by omega)
    have hd := diffS_le c i
    have e1 : wrap64 ((i : Int) - 1) = ((i - 1 : Nat) : Int) := by rw [wrap_id (by omega) (by omega)]; omega
    have e2 : wrap64 ((i : Int) + 1) = ((i + 1 : Nat) : Int) := by rw [wrap_id (by omega) (by omega)]; rfl
    have r1 : (0 : Int) < ((rd_L3 c (i : Int)).length : Int) := by rw [rdRow_nat, hr i (by omega)]; decide
    have r2 : (0 : Int) < ((rd_L3 c ((i - 1 : Nat) : Int)).length : Int) := by rw [rdRow_nat, hr (i - 1) (by omega)]; decide
    have c1 : (i : Int) < (c.length : Int) := by omega
    have c2 : (0 : Int) ≤ (i : Int) := by omega
    have c3 : (0 : Int) ≤ ((i - 1 : Nat) : Int) := by omega
    have c4 : ((i - 1 : Nat) : Int) < (c.length : Int) := by omega
    by_cases hq : val1 c i = val1 c (i - 1)
    · have hs : diffS c (i + 1) = diffS c i := by rw [diffS, if_neg (fun h => h.2 hq)]
      rw [hs] at g1 g2
      refine ⟨Ev.step (fun k => ?_) g1, Ev.step (fun k => ?_) g2⟩
      · rw [ring_differ.l0, if_pos c1, if_pos c2, if_pos r1, e1, if_pos c3, if_pos c4, if_pos r2, val_rd, val_rd, if_pos hq, e2]
      · rw [selfstabref29_Legit.l0, if_pos c1, if_pos c2, if_pos r1, e1, if_pos c3, if_pos c4, if_pos r2, val_rd, val_rd, if_pos hq, e2]
    · have hs : diffS c (i + 1) = diffS c i + 1 := by rw [diffS, if_pos ⟨h1, hq⟩]
      rw [hs] at g1 g2
      have e3 : wrap64 (((diffS c i : Nat) : Int) + 1) = ((diffS c i + 1 : Nat) : Int) := by rw [wrap_id (by omega) (by omega)]; rfl
      refine ⟨Ev.step (fun k => ?_) g1, Ev.step (fun k => ?_) g2⟩
      · rw [ring_differ.l0, if_pos c1, if_pos c2, if_pos r1, e1, if_pos c3, if_pos c4, if_pos r2, val_rd, val_rd, if_neg hq, e2, e3]
      · rw [selfstabref29_Legit.l0, if_pos c1, if_pos c2, if_pos r1, e1, if_pos c3, if_pos c4, if_pos r2, val_rd, val_rd, if_neg hq, e2, e3]
def ringLegit (ids : List Int) (p : List (List S60)) (c : List (List Int)) : Bool := ringConf ids p c && decide (((diffS c c.length : Nat) : Int) ≤ 1)
theorem diff_one : diffS c 1 = 0 := by
  unfold diffS
  rw [if_neg (fun h => absurd h.1 (by decide))]
  rfl
theorem legitR_ev : Ev (fun k => ring_Legit.f k ids p c) (ringLegit ids p c) := by
  unfold ring_Legit.f ringLegit
  refine Ev.bind rconf_ev ?_
  cases hf : ringConf ids p c with
  | false => exact Ev.congr (f := fun _ => some false) (fun k => by rw [if_neg (by simp)]) Ev.some
  | true =>
    obtain ⟨h1, h2, h3, h4, h5⟩ := ringConf_rows hf
    have h := (differ_l0 h4 h5 (c.length - 1) 1 (by omega) (by omega)).1
    rw [diff_one] at h
    exact Ev.congr (fun k => by rw [if_pos rfl]; rfl) (f := fun k => (ring_differ.l0 k c ((0 : Nat) : Int) ((1 : Nat) : Int)).bind fun t => some (decide (t ≤ 1))) (Ev.bind h (Ev.some' (Bool.true_and _).symm))
theorem conf29 (hV : (toG ids p).valid = true) : ∃ vs, selfstabref29_Vars.f = some vs ∧ selfstabref23_Config.f ids p c vs = some (holdsB (toG ids p) c [(p.length : Int)]) := by
  have hs := valid_size hV
  refine ⟨_, rfl, ?_⟩
  unfold selfstabref23_Config.f
  rw [if_pos ⟨by simp, by decide⟩]
  have hm : mostOf (toG ids p).ports.length (Go.Proofs.Ythapikakneikbaa.topOf (toG ids p).ids) ⟨⟨#[120]⟩, 1, 0, 0, 1, 0⟩ = (p.length : Int) := by
    unfold mostOf
    rw [if_neg (by decide), if_neg (by decide), toG_len]
    simp
  congr 1
  refine conf_holds hV (most := [(p.length : Int)]) ?_ ?_
  · show _ = [mostOf _ _ _]
    exact congrArg (fun x => [x]) hm.symm
  · intro x hx
    simp at hx
    subst hx
    refine .inr ⟨.inr rfl, ?_⟩
    show mostOf _ _ (⟨⟨#[120]⟩, 1, 0, 0, 1, 0⟩ : Go.Proofs.Ythapikakneikbaa.Var) ≠ -1
    rw [hm]; omega
theorem refLegitR_ev : Ev (fun k => selfstabref29_Legit.f k ids p c) (ringLegit ids p c) := by
  unfold selfstabref29_Legit.f ringLegit ringConf
  have no : Ev (fun k => selfstabref29_Legit.j0 k c true) false := Ev.step (f := fun _ => some false) (fun k => by rw [selfstabref29_Legit.j0, if_pos rfl]) Ev.some
  refine Ev.bind (rfit_ev ids p) ?_
  cases hf : ringFit ids p with
  | false => exact Ev.congr (fun k => by rw [if_neg (by simp)]) no
  | true =>
    obtain ⟨hV, _⟩ := ringFit_valid hf
    obtain ⟨vs, hvs, hcf⟩ := conf29 (c := c) hV
    refine Ev.congr (fun k => by rw [if_pos rfl, hvs, Option.bind_some, hcf, Option.bind_some]) (f := fun k => selfstabref29_Legit.j0 k c (!holdsB (toG ids p) c [(p.length : Int)])) ?_
    cases hh : holdsB (toG ids p) c [(p.length : Int)] with
    | false => exact no
    | true =>
      have hcf2 : ringConf ids p c = true := by unfold ringConf; rw [hf, hh]; rfl
      obtain ⟨h1, h2, h3, h4, h5⟩ := ringConf_rows hcf2
      have h := (differ_l0 h4 h5 (c.length - 1) 1 (by omega) (by omega)).2
      rw [diff_one] at h
      refine Ev.step (fun k => ?_) h
      rw [selfstabref29_Legit.j0, if_neg (by simp)]
      rfl
theorem claimR_ev : ∃ r, Ev (fun k => ring_Claim.f k ids p) r ∧ Ev (fun k => selfstabref29_Claim.f k ids p) r := by
  unfold ring_Claim.f selfstabref29_Claim.f
  cases hf : ringFit ids p with
  | false =>
    refine ⟨(0, false, false, 0, 0), Ev.bind (fit_ev ids p) ?_, Ev.bind (rfit_ev ids p) ?_⟩ <;> rw [hf] <;> exact Ev.congr (f := fun _ => some (0, false, false, 0, 0)) (fun k => by rw [if_neg (by simp)]) Ev.some
  | true =>
    refine ⟨(3, false, false, wrap64 ((wrap64 ((p.length : Int) * (p.length : Int))) + (p.length : Int)), wrap64 ((wrap64 ((p.length : Int) * (p.length : Int))) + (wrap64 (Int.tdiv (wrap64 ((p.length : Int) * (wrap64 ((p.length : Int) - 1)))) 2)))), Ev.bind (fit_ev ids p) ?_, Ev.bind (rfit_ev ids p) ?_⟩ <;> rw [hf] <;> exact Ev.congr (f := fun _ => some _) (fun k => if_pos rfl) Ev.some
/-- Is node v enabled? -/
def enabR (c : List (List Int)) (v : Nat) : Bool := if v = 0 then decide (val1 c 0 = val1 c (c.length - 1)) else decide (val1 c v ≠ val1 c (v - 1))
def privS (ids : List Int) (p : List (List S60)) (c : List (List Int)) : Int := if ringConf ids p c = true then ((bitsOf (enabR c) c.length : Nat) : Int) else 0
theorem bits_up (q : Nat → Bool) {i : Nat} (hi : i < 32) : (if q i = true then Go.bits .or .u32 ((bitsOf q i : Nat) : Int) (shl .u32 1 (i : Int)) else ((bitsOf q i : Nat) : Int)) = ((bitsOf q (i + 1) : Nat) : Int) := by
  rw [bitsOf]
  split
  · rw [or_bit (bitsOf_small (by omega)) hi]
  · rfl
theorem priv_l0 (hc : c.length ≤ 24) (h3 : 3 ≤ c.length) (hr : ∀ v, v < c.length → (c.getD v []).length = 1) : ∀ m i, m + i = c.length →
    Ev (fun k => ring_Privileged.l0 k c ((bitsOf (enabR c) i : Nat) : Int) (c.length : Int) (i : Int)) ((bitsOf (enabR c) c.length : Nat) : Int) := by
  intro m
  induction m with
  | zero =>
    intro i hm
    obtain rfl : i = c.length := by omega
    refine Ev.step (f := fun _ => some _) (fun k => ?_) Ev.some
    rw [ring_Privileged.l0, if_neg (by omega)]
  | succ m ih =>
    intro i hm
    have h := ih (i + 1) (by omega)
    have hi32 : i < 32 := by omega
    obtain ⟨e1, _⟩ := mod_code (n := c.length) hc (v := i) (by omega)
    have hlt : (i + c.length - 1) % c.length < c.length := Nat.mod_lt _ (by omega)
    have hval : ∀ t : Nat, (i + c.length - 1) % c.length = t → ((val1 c i == val1 c t) == ((i : Int) == 0)) = enabR c i := by
      intro t ht
      unfold enabR
      by_cases h0 : i = 0
      · subst h0
        have : t = c.length - 1 := by rw [← ht, Nat.zero_add]; exact Nat.mod_eq_of_lt (by omega)
        subst this
        rw [if_pos rfl]
        cases hb : decide (val1 c 0 = val1 c (c.length - 1)) <;> simp_all
      · have : t = i - 1 := by
          rw [← ht, show i + c.length - 1 = (i - 1) + c.length from by omega, Nat.add_mod_right]
          exact Nat.mod_eq_of_lt (by omega)
        subst this
        rw [if_neg h0]
        have : ((i : Int) == 0) = false := by rw [beq_eq_false_iff_ne]; omega
        rw [this]
        by_cases hb : val1 c i = val1 c (i - 1)
        · simp [hb]
        · simp [hb]
    obtain ⟨t, ht⟩ : ∃ t, (i + c.length - 1) % c.length = t := ⟨_, rfl⟩
    rw [ht] at e1 hlt
    have q1 : (i : Int) < (c.length : Int) := by omega
    have q2 : ¬ (c.length : Int) = 0 := by omega
    have q3 : (0 : Int) ≤ (t : Int) := Int.natCast_nonneg t
    have q4 : (t : Int) < (c.length : Int) := Int.ofNat_lt.2 hlt
    have q5 : (0 : Int) ≤ (i : Int) := by omega
    have r1 : (0 : Int) < ((rd_L3 c (i : Int)).length : Int) := by rw [rdRow_nat, hr i (by omega)]; decide
    have r2 : (0 : Int) < ((rd_L3 c ((t : Nat) : Int)).length : Int) := by rw [rdRow_nat, hr t hlt]; decide
    have e2 : wrap64 ((i : Int) + 1) = ((i + 1 : Nat) : Int) := by rw [wrap_id (by omega) (by omega)]; rfl
    have hb := bits_up (enabR c) hi32
    refine Ev.step (fun k => ?_) h
    rw [ring_Privileged.l0, if_pos q1, if_neg q2, e1, if_pos q3, if_pos q4, if_pos r2, if_pos q5, if_pos q1, if_pos r1, val_rd, val_rd, hval t ht, e2]
    cases hq : enabR c i with
    | true => rw [hq, if_pos rfl] at hb; rw [if_pos rfl, hb]
    | false => rw [hq, if_neg (by simp)] at hb; rw [if_neg (by simp), hb]
theorem privR_ev : Ev (fun k => ring_Privileged.f k ids p c) (privS ids p c) := by
  unfold ring_Privileged.f privS
  refine Ev.bind rconf_ev ?_
  cases hf : ringConf ids p c with
  | false => exact Ev.congr (f := fun _ => some 0) (fun k => by rw [if_neg (by simp)]) Ev.some
  | true =>
    obtain ⟨h1, h2, h3, h4, h5⟩ := ringConf_rows hf
    rw [if_pos rfl]
    exact Ev.congr (fun k => by rw [if_pos rfl]; rfl) (priv_l0 h4 (by omega) h5 c.length 0 (by omega))
theorem rpriv_l0 (hc : c.length ≤ 24) (hr : ∀ v, v < c.length → (c.getD v []).length = 1) : ∀ m i, m + i = c.length → 1 ≤ i →
    Ev (fun k => selfstabref29_Privileged.l0 k c ((bitsOf (enabR c) i : Nat) : Int) (c.length : Int) (i : Int)) ((bitsOf (enabR c) c.length : Nat) : Int) := by
  intro m
  induction m with
  | zero =>
    intro i hm h1
    obtain rfl : i = c.length := by omega
    refine Ev.step (f := fun _ => some _) (fun k => ?_) Ev.some
    rw [selfstabref29_Privileged.l0, if_neg (by omega)]
  | succ m ih =>
    intro i hm h1
    have h := ih (i + 1) (by omega) (by omega)
    have hi32 : i < 32 := by omega
    have q1 : (i : Int) < (c.length : Int) := by omega
    have q3 : (0 : Int) ≤ ((i - 1 : Nat) : Int) := by omega
    have q4 : ((i - 1 : Nat) : Int) < (c.length : Int) := by omega
    have q5 : (0 : Int) ≤ (i : Int) := by omega
    have q6 : IntKind.u64.wrap (i : Int) = (i : Int) := wrap_u64 (by omega) (by omega)
    have e1 : wrap64 ((i : Int) - 1) = ((i - 1 : Nat) : Int) := by rw [wrap_id (by omega) (by omega)]; omega
    have e2 : wrap64 ((i : Int) + 1) = ((i + 1 : Nat) : Int) := by rw [wrap_id (by omega) (by omega)]; rfl
    have r1 : (0 : Int) < ((rd_L3 c (i : Int)).length : Int) := by rw [rdRow_nat, hr i (by omega)]; decide
    have r2 : (0 : Int) < ((rd_L3 c ((i - 1 : Nat) : Int)).length : Int) := by rw [rdRow_nat, hr (i - 1) (by omega)]; decide
    have hb := bits_up (enabR c) hi32
    have he : enabR c i = decide (val1 c i ≠ val1 c (i - 1)) := by unfold enabR; rw [if_neg (by omega)]
    refine Ev.step (fun k => ?_) h
    by_cases hq : val1 c i = val1 c (i - 1)
    · rw [he, decide_eq_false (fun h => h hq), if_neg (by simp)] at hb
      rw [selfstabref29_Privileged.l0, if_pos q1, if_pos q5, if_pos q1, if_pos r1, e1, if_pos q3, if_pos q4, if_pos r2, val_rd, val_rd, if_pos hq, e2, hb]
    · rw [he, decide_eq_true hq, if_pos rfl] at hb
      rw [selfstabref29_Privileged.l0, if_pos q1, if_pos q5, if_pos q1, if_pos r1, e1, if_pos q3, if_pos q4, if_pos r2, val_rd, val_rd, if_neg hq, q6, if_pos q5, e2, hb]
theorem rprivR_ev : Ev (fun k => selfstabref29_Privileged.f k ids p c) (privS ids p c) := by
  unfold selfstabref29_Privileged.f privS
  have no : Ev (fun k => selfstabref29_Privileged.j0 k c true) 0 := Ev.step (f := fun _ => some 0) (fun k => by rw [selfstabref29_Privileged.j0, if_pos rfl]) Ev.some
  refine Ev.bind (rfit_ev ids p) ?_
  cases hf : ringFit ids p with
  | false =>
    have : ringConf ids p c = false := by unfold ringConf; rw [hf]; rfl
    rw [this]
    exact Ev.congr (fun k => by rw [if_neg (by simp)]) no
  | true =>
    obtain ⟨hV, _⟩ := ringFit_valid hf
    obtain ⟨vs, hvs, hcf⟩ := conf29 (c := c) hV
    refine Ev.congr (fun k => by rw [if_pos rfl, hvs, Option.bind_some, hcf, Option.bind_some]) (f := fun k => selfstabref29_Privileged.j0 k c (!holdsB (toG ids p) c [(p.length : Int)])) ?_
    cases hh : holdsB (toG ids p) c [(p.length : Int)] with
    | false =>
      have : ringConf ids p c = false := by unfold ringConf; rw [hh, Bool.and_false]
      rw [this]
      exact no
    | true =>
      have hcf2 : ringConf ids p c = true := by unfold ringConf; rw [hf, hh]; rfl
      obtain ⟨h1, h2, h3, h4, h5⟩ := ringConf_rows hcf2
      rw [hcf2, if_pos rfl]
      have hlo := rpriv_l0 h4 h5 (c.length - 1) 1 (by omega) (by omega)
      have e1 : wrap64 ((c.length : Int) - 1) = ((c.length - 1 : Nat) : Int) := by rw [wrap_id (by omega) (by omega)]; omega
      have r0 : (0 : Int) < ((rd_L3 c 0).length : Int) := by rw [show (0 : Int) = ((0 : Nat) : Int) from rfl, rdRow_nat, hr0 h5 (by omega)]; decide
      have r1 : (0 : Int) < ((rd_L3 c ((c.length - 1 : Nat) : Int)).length : Int) := by rw [rdRow_nat, h5 (c.length - 1) (by omega)]; decide
      have v0 : rd (rd_L3 c 0) 0 = val1 c 0 := val_rd (v := 0)
      have hb1 : bitsOf (enabR c) 1 = if val1 c 0 = val1 c (c.length - 1) then 1 else 0 := by
        have h0 : enabR c 0 = decide (val1 c 0 = val1 c (c.length - 1)) := by unfold enabR; rw [if_pos rfl]
        unfold bitsOf
        rw [h0]
        by_cases hq : val1 c 0 = val1 c (c.length - 1)
        · simp [hq, bitsOf]
        · simp [hq, bitsOf]
      by_cases hq : val1 c 0 = val1 c (c.length - 1)
      · rw [hb1, if_pos hq] at hlo
        refine Ev.step (fun k => ?_) (Ev.step (g := fun k => selfstabref29_Privileged.j1 k c 1 (c.length : Int)) (fun k => ?_) hlo)
        · rw [selfstabref29_Privileged.j0, if_neg (by simp), if_pos (by omega), if_pos r0, e1, if_pos (by omega), if_pos (by omega), if_pos r1, v0, val_rd, if_pos hq]
        · rw [selfstabref29_Privileged.j1]
          rfl
      · rw [hb1, if_neg hq] at hlo
        refine Ev.step (fun k => ?_) (Ev.step (g := fun k => selfstabref29_Privileged.j1 k c 0 (c.length : Int)) (fun k => ?_) hlo)
        · rw [selfstabref29_Privileged.j0, if_neg (by simp), if_pos (by omega), if_pos r0, e1, if_pos (by omega), if_pos (by omega), if_pos r1, v0, val_rd, if_neg hq]
        · rw [selfstabref29_Privileged.j1]
          rfl
where hr0 {c : List (List Int)} (h : ∀ v, v < c.length → (c.getD v []).length = 1) (h0 : 0 < c.length) : (c.getD 0 []).length = 1 := h 0 h0
end
set_option maxRecDepth 100000 in
theorem known29_at : selfstablaw29_known.f 60 = some true := by kernel_rfl
theorem known29_ev : Ev selfstablaw29_known.f true := Ev.of (fun k => selfstablaw29_known.mono k) known29_at
/-- The statement, over plain data. -/
theorem ringJudges (ids : List Int) (p : List (List S60)) (c : List (List Int)) : ∃ k, selfstablaw29_RingJudges.f k ids p c = some true := by
  refine Ev.rounds ?_
  unfold selfstablaw29_RingJudges.f
  have hl : ∃ b, selfstablaw29_large.f ids p c = some b := by
    unfold selfstablaw29_large.f
    split <;> (try split) <;> exact ⟨_, rfl⟩
  obtain ⟨b, hl⟩ := hl
  refine Ev.bindc hl ?_
  cases b with
  | true =>
    simp only [↓reduceIte]
    exact Ev.bind known29_ev Ev.some
  | false =>
    simp only [Bool.false_eq_true, ↓reduceIte]
    refine Ev.bind known29_ev ?_
    simp only [↓reduceIte]
    refine Ev.bind (fit_ev ids p) (Ev.bind (rfit_ev ids p) ?_)
    simp only [beq_self_eq_true, ↓reduceIte]
    refine Ev.bind legitR_ev (Ev.bind refLegitR_ev ?_)
    simp only [beq_self_eq_true, ↓reduceIte]
    obtain ⟨r, h2, h3⟩ := claimR_ev (ids := ids) (p := p)
    refine Ev.bind h2 (Ev.bind h3 ?_)
    simp only [beq_self_eq_true, Bool.and_self, ↓reduceIte]
    refine Ev.bind privR_ev (Ev.bind rprivR_ev ?_)
    simp only [beq_self_eq_true]
    exact Ev.some
end Go.Proofs.YthapikakneikbaaG
/-
  An argument that came in reads as plain data: integers, bools, slices, links, graphs, nets.
-/
namespace Go.Proofs.Ythapikakneikbaa
open Go.RowKit Go.WideShapes Go.ChangeShapes
/-- Whatever reads as data of type t is of kind d. -/
def Opens {α : Type} (t : TypeId) (d : Kd α) : Prop := ∀ (H : Type) (enc : TypeId × Value → H) (W : World) (base : Nat) (spare : Nat → Bool) (held : Bool) (fuel : Nat) (cs : List Value) (x : DataW H × List MemPlace),
  DataW.trod enc Try.prog W base spare held fuel t cs = some x → ∃ a : α, d.K W a cs
theorem opens_int {t : TypeId} {k : IntKind} (ht : Try.prog.underlying t = some (.int k)) : Opens t (Kd.int k) := fun H enc W base spare held fuel cs x h => by
  obtain ⟨n, rfl, _⟩ := DataW.trod_int ht h
  exact ⟨n, rfl⟩
theorem opens_slice {α : Type} {t e : TypeId} {d : Kd α} (ht : Try.prog.underlying t = some (.slice e)) (he : Try.prog.cellsOf e = d.sz) (ho : Opens e d) : Opens t d.slice := fun H enc W base spare held fuel cs x h => by
  rcases Go.Deep.open_slice ht h with ⟨rfl, _⟩ | ⟨a, len, cap, m, n, D, Pl, rfl, _, hl, hm, hmm, _, hx⟩
  · exact ⟨[], _, rfl, none, 0, rfl, Nat.le_refl _, Kd.C_nil _ _ _⟩
  · have hlm : len ≤ m := by rw [hmm]; split <;> omega
    rw [he] at hx
    have each : ∀ i, i < len → ∃ (y : α) (c : List Value), d.K W y c ∧ ∀ (j : Nat) u, c[j]? = some u → W.cell? (a.add (i * d.sz + j)) = some u := fun i hi => by
      obtain ⟨cs', h1, h2⟩ := hx i (by omega)
      obtain ⟨y, hy⟩ := ho _ _ _ _ _ _ _ _ _ h2
      obtain ⟨_, hlen, hcell⟩ := World.cells?_some h1
      refine ⟨y, cs', hy, fun j u hu => ?_⟩
      have hj := (List.getElem?_eq_some_iff.1 hu).1
      rw [← Go.Deep.add_add, hcell j (by omega), hu]
    have mk : ∀ k, k ≤ len → ∃ ys : List α, ys.length = k ∧ ∀ (i : Nat) y, ys[i]? = some y → ∃ c, d.K W y c ∧ ∀ (j : Nat) u, c[j]? = some u → W.cell? (a.add (i * d.sz + j)) = some u := fun k => by
      induction k with
      | zero => exact fun _ => ⟨[], rfl, fun i y h => by simp at h⟩
      | succ k ih =>
        intro hk
        obtain ⟨ys, h1, h2⟩ := ih (by omega)
        obtain ⟨y, c, h3, h4⟩ := each k (by omega)
        refine ⟨ys ++ [y], by simp [h1], fun i z hz => ?_⟩
        by_cases hi : i < k
        · rw [List.getElem?_append_left (by omega)] at hz
          exact h2 i z hz
        · rw [List.getElem?_append_right (by omega), h1] at hz
          cases hik : i - k with
          | succ q => rw [hik] at hz; simp at hz
          | zero =>
            rw [hik] at hz
            obtain rfl : y = z := by simpa using hz
            obtain rfl : i = k := by omega
            exact ⟨c, h3, h4⟩
    obtain ⟨ys, h1, h2⟩ := mk len (Nat.le_refl _)
    subst h1
    exact ⟨ys, _, rfl, some a, cap, rfl, hl, by unfold maxLen at hm; omega, fun _ => ⟨a, rfl, h2⟩⟩
/-- A struct's fields. -/
theorem opens_fields {H : Type} {enc : TypeId × Value → H} {W : World} {base : Nat} {spare : Nat → Bool} {held : Bool} {fuel : Nat} {cs : List Value} {x : DataW H × List MemPlace} {t : TypeId} {fs : Array Field} (ht : Try.prog.underlying t = some (.struct fs)) (h : DataW.trod enc Try.prog W base spare held fuel t cs = some x) :
    cs.length = Try.prog.cellsOf t ∧ ∀ (i : Nat) (f : Field) (α : Type) (d : Kd α) (T : TypeId) (o n : Nat), fs[i]? = some f → f.type = T → f.offset = o → Try.prog.cellsOf T = n → Opens T d → ∃ a : α, d.K W a ((cs.drop o).take n) := by
  obtain ⟨xs, n, _, _, hl, hxl, hf⟩ := DataW.trod_struct ht h
  refine ⟨hl, fun i f α d T o m hi hT ho2 hm ho => ?_⟩
  subst hT ho2 hm
  have h1 := hf i f hi
  have hil := (Array.getElem?_eq_some_iff.1 hi).1
  rw [List.getElem?_eq_getElem (by rw [hxl]; exact hil)] at h1
  exact ho _ _ _ _ _ _ _ _ _ h1
theorem opens_ints : Opens 22 (Kd.int .i64).slice := opens_slice Try.underlying22 (by kernel_rfl) (opens_int Try.underlying3)
theorem opens_conf : Opens 29 kConf.slice := opens_slice Try.underlying29 (by kernel_rfl) opens_ints
theorem opens_link : Opens 60 kLink := fun H enc W base spare held fuel cs x h => by
  obtain ⟨hl, hf⟩ := opens_fields Try.underlying60 h
  obtain ⟨a, ha⟩ := hf 0 _ _ (Kd.int .i64) _ 0 1 rfl rfl rfl (by kernel_rfl) (opens_int Try.underlying3)
  obtain ⟨b, hb⟩ := hf 1 _ _ (Kd.int .i64) _ 1 1 rfl rfl rfl (by kernel_rfl) (opens_int Try.underlying3)
  have c2 : Try.prog.cellsOf 60 = 2 := by kernel_rfl
  rw [c2] at hl
  match cs, hl with
  | [u, v], _ =>
    obtain rfl : u = .int .i64 a := by have h : [u] = [Value.int .i64 a] := ha; simpa using h
    obtain rfl : v = .int .i64 b := by have h : [v] = [Value.int .i64 b] := hb; simpa using h
    exact ⟨⟨a, b⟩, [.int .i64 a], [.int .i64 b], rfl, rfl, rfl⟩
theorem opens_row : Opens 52 kLink.slice := opens_slice Try.underlying52 (by kernel_rfl) opens_link
theorem opens_ports : Opens 25 kLink.slice.slice := opens_slice Try.underlying25 (by kernel_rfl) opens_row
section
variable {H : Type} {enc : TypeId × Value → H} {W : World} {base b0 : Nat} {spare : Nat → Bool} {held : Bool} {r : Reach} {v : Value} {d : DataW H} {p : List MemPlace}
theorem one_slice {α : Type} {k : Kd α} {u : Value} {a : List α} (h : k.slice.K W a [u]) : k.SL W u a := by
  obtain ⟨v, e, hs⟩ := h
  obtain rfl : u = v := by simpa using e
  exact hs
/-- A graph that came in. -/
theorem open_graph (hv : Value.okWide Try.prog W r b0 27 v) (h : DataW.Trod enc Try.prog W base spare held 27 v d p) :
    ∃ (g : Graph) (A0 : Option Addr) (c0 : Nat) (A1 : Option Addr) (c1 : Nat), v = .agg #[.slice A0 g.ids.length c0, .slice A1 g.ports.length c1] ∧ IsGraph W A0 c0 A1 c1 g := by
  obtain ⟨cs, rfl, hsz⟩ := okWide_struct Try.underlying27 hv
  obtain ⟨l⟩ := cs
  obtain ⟨fuel, hf⟩ := h
  obtain ⟨hl, hg⟩ := opens_fields Try.underlying27 hf
  obtain ⟨ids, h0⟩ := hg 0 _ _ (Kd.int .i64).slice _ 0 1 rfl rfl rfl (by kernel_rfl) opens_ints
  obtain ⟨ports, h1⟩ := hg 1 _ _ kLink.slice.slice _ 1 1 rfl rfl rfl (by kernel_rfl) opens_ports
  have c3 : Try.prog.cellsOf 27 = 2 := by kernel_rfl
  rw [c3] at hl
  have hl' : l.length = 2 := hl
  match l, hl' with
  | [u0, u1], _ =>
    obtain ⟨A0, k0, rfl, m0, q0⟩ := one_slice (u := u0) h0
    obtain ⟨A1, k1, rfl, m1, q1⟩ := one_slice (u := u1) h1
    exact ⟨⟨ids, ports⟩, A0, k0, A1, k1, rfl, ⟨q0, m0, q1, m1⟩⟩
/-- A list of numbers, a configuration that came in. -/
theorem open_list {t : TypeId} {α : Type} {k : Kd α} (ho : Opens t k.slice) (ht : ∃ e, Try.prog.underlying t = some (.slice e)) (hv : Value.okWide Try.prog W r b0 t v) (h : DataW.Trod enc Try.prog W base spare held t v d p) : ∃ xs, k.SL W v xs := by
  obtain ⟨e, ht⟩ := ht
  obtain ⟨a, len, cap, rfl⟩ := okWide_slice ht hv
  obtain ⟨fuel, hf⟩ := h
  obtain ⟨xs, hx⟩ := ho _ _ _ _ _ _ _ _ _ hf
  exact ⟨xs, one_slice hx⟩
end
end Go.Proofs.Ythapikakneikbaa
/-
  From the words on memory of the texts written by hand to those of the printed texts: what came in.
-/
namespace Go.Proofs.YthapikakneikbaaG
open Go.RowKit
structure Bk {α β : Type} (d' : HKd β) (d : PKd α) (f : β → α) : Prop where
  sz : d.sz = d'.sz
  K : ∀ {w : World} {x : β} {c : List Value}, d'.K w x c → d.K w (f x) c
theorem Bk.C {α β : Type} {d : PKd α} {d' : HKd β} {f : β → α} (b : Bk d' d f) {w : World} {A : Option Addr} {xs : List β} (h : Go.Proofs.Ythapikakneikbaa.Kd.C d' w A xs) : Go.Proofs.YthapikakneikbaaW.PrintWords.Kd.C d w A xs.length (xs.map f) := by
  obtain ⟨hm, hc⟩ := h
  refine ⟨by simp, hm, fun h0 => ?_⟩
  obtain ⟨ad, e, hr⟩ := hc h0
  refine ⟨ad, e, fun j y hy => ?_⟩
  rw [List.getElem?_map] at hy
  obtain ⟨x, hx, rfl⟩ := Option.map_eq_some_iff.1 hy
  obtain ⟨c, hK, hcell⟩ := hr j x hx
  rw [← b.sz] at hcell
  exact ⟨c, d.K_len (b.K hK), b.K hK, hcell⟩
theorem Bk.int (k : IntKind) : Bk (Go.Proofs.Ythapikakneikbaa.Kd.int k) (Go.Proofs.YthapikakneikbaaW.PrintWords.Kd.int k) id := ⟨rfl, fun h => h⟩
theorem Bk.slice {α β : Type} {d : PKd α} {d' : HKd β} {f : β → α} (b : Bk d' d f) (e : Nat) : Bk d'.slice (Go.Proofs.YthapikakneikbaaW.PrintWords.Kd.slice e d) (List.map f) := ⟨rfl, fun h => by
  obtain ⟨v, rfl, A, c, rfl, hl, hC⟩ := h
  exact ⟨A, c, by rw [List.length_map], by simpa using hl, by simpa using b.C hC⟩⟩
theorem Bk.link : Bk Go.Proofs.Ythapikakneikbaa.kLink k60 ofL := ⟨rfl, fun h => h⟩
theorem B_ints {w : World} {k : IntKind} {A : Option Addr} {xs : List Int} (h : (Go.Proofs.Ythapikakneikbaa.Kd.int k).C w A xs) : Go.Proofs.YthapikakneikbaaW.PrintWords.Kd.C (Go.Proofs.YthapikakneikbaaW.PrintWords.Kd.int k) w A xs.length xs := by
  have := (Bk.int k).C h
  rwa [List.map_id] at this
theorem B_conf {w : World} {A : Option Addr} {c : List (List Int)} (h : Go.Proofs.Ythapikakneikbaa.kConf.C w A c) : Go.Proofs.YthapikakneikbaaW.PrintWords.Kd.C (Go.Proofs.YthapikakneikbaaW.PrintWords.Kd.slice 3 (Go.Proofs.YthapikakneikbaaW.PrintWords.Kd.int .i64)) w A c.length c := by
  have := ((Bk.int .i64).slice 3).C h
  simpa using this
theorem B_ports {w : World} {A : Option Addr} {p : List (List Go.Proofs.Ythapikakneikbaa.Link)} (h : Go.Proofs.Ythapikakneikbaa.kLink.slice.C w A p) : Go.Proofs.YthapikakneikbaaW.PrintWords.Kd.C (Go.Proofs.YthapikakneikbaaW.PrintWords.Kd.slice 60 k60) w A (p.map (List.map ofL)).length (p.map (List.map ofL)) := by
  have := (Bk.link.slice 60).C h
  rw [List.length_map]
  exact this
end Go.Proofs.YthapikakneikbaaG
