/-
  Lemmas and walks for this claim, part 6: Gselfstabref26Legit, Gselfstabref26Claim, Gselfstabref26Leader, Gselfstablaw26LeaderJudges, PLeader.
-/
import Derived.KernelRfl
import Derived.Test.YthapikakneikbaaLJ5
namespace Go.Proofs.YthapikakneikbaaG
open Go.RowKit Go.Proofs.YthapikakneikbaaW.PrintWords Go.Proofs.YthapikakneikbaaW.PrintLast Go.Proofs.YthapikakneikbaaW.PrintMore
attribute [local go_sem] max2_int min2_int max_two min_two max_three min_three max_four min_four   -- for this text's walks alone
set_option linter.unusedVariables false
set_option linter.unusedSimpArgs false
mutual
def selfstabref26_Legit.j0 : Nat → List (List Int) → Bool → List Int → List (List (S60)) → Option (Bool)
 | 0, _, _, _, _ => none
 | k + 1, x1, x16, x747000, x747001 => if x16 = true then (some false) else ((selfstabref26_Least.f k x747000 x747001).bind fun t752 => (selfstabref26_Legit.l0 k x1 t752 0 x747000 x747001))
def selfstabref26_Legit.l0 : Nat → List (List Int) → Int → Int → List Int → List (List (S60)) → Option (Bool)
 | 0, _, _, _, _, _ => none
 | k + 1, x1, x5, x6, x747000, x747001 => if x6 < (x1.length : Int) then (if 0 ≤ x6 then (if 0 < ((rd_L3 x1 x6).length : Int) then (if 0 ≤ x5 then (if x5 < (x747000.length : Int) then (if (rd (rd_L3 x1 x6) 0) = (rd x747000 x5) then (selfstabref26_Legit.l0 k x1 x5 (wrap64 (x6 + 1)) x747000 x747001) else (some false)) else (none)) else (none)) else (none)) else (none)) else ((selfstabref23_Tree.f k x747000 x747001 x1 x5 1 2).bind fun t756 => (some t756))
end
def selfstabref26_Legit.f (k : Nat) (l0_0 : List Int) (l0_1 : List (List (S60))) (l1 : List (List Int)) : Option (Bool) := (selfstabref26_Fit.f k l0_0 l0_1).bind fun t747 => (if t747 = true then ((selfstabref26_Vars.f).bind fun t748 => ((selfstabref23_Config.f l0_0 l0_1 l1 t748).bind fun t751 => (selfstabref26_Legit.j0 k l1 (!t751) l0_0 l0_1))) else (selfstabref26_Legit.j0 k l1 true l0_0 l0_1))
theorem selfstabref26_Legit.mono_l : ∀ k, (∀ y0 y1 y2 y3, LeO (selfstabref26_Legit.j0 k y0 y1 y2 y3) (selfstabref26_Legit.j0 (k + 1) y0 y1 y2 y3)) ∧ (∀ y0 y1 y2 y3 y4, LeO (selfstabref26_Legit.l0 k y0 y1 y2 y3 y4) (selfstabref26_Legit.l0 (k + 1) y0 y1 y2 y3 y4))
 | 0 => ⟨fun _ _ _ _ r h => by simp [selfstabref26_Legit.j0] at h, fun _ _ _ _ _ r h => by simp [selfstabref26_Legit.l0] at h⟩
 | k + 1 => by
  obtain ⟨ih0, ih1⟩ := selfstabref26_Legit.mono_l k
  refine ⟨?_, ?_⟩
  ·
   intro y0 y1 y2 y3
   unfold selfstabref26_Legit.j0
   repeat' first
   | (with_reducible exact ih0 _ _ _ _)
   | (with_reducible exact ih1 _ _ _ _ _)
   | (with_reducible exact selfstabref23_Tree.mono _ _ _ _ _ _ _)
   | (with_reducible exact selfstabref26_Fit.mono _ _ _)
   | (with_reducible exact selfstabref26_Least.mono _ _ _)
   | (with_reducible exact LeO.refl _)
   | (with_reducible exact LeO.none _)
   | (with_reducible refine LeO.ite ?_ ?_)
   | (with_reducible refine LeO.bind ?_ (fun _ => ?_))
   | exact ih0 _ _ _ _
   | exact ih1 _ _ _ _ _
   | exact selfstabref23_Tree.mono _ _ _ _ _ _ _
   | exact selfstabref26_Fit.mono _ _ _
   | exact selfstabref26_Least.mono _ _ _
   | exact LeO.none _
   | refine LeO.ite ?_ ?_
   | refine LeO.bind ?_ (fun _ => ?_)
  ·
   intro y0 y1 y2 y3 y4
   unfold selfstabref26_Legit.l0
   repeat' first
   | (with_reducible exact ih0 _ _ _ _)
   | (with_reducible exact ih1 _ _ _ _ _)
   | (with_reducible exact selfstabref23_Tree.mono _ _ _ _ _ _ _)
   | (with_reducible exact selfstabref26_Fit.mono _ _ _)
   | (with_reducible exact selfstabref26_Least.mono _ _ _)
   | (with_reducible exact LeO.refl _)
   | (with_reducible exact LeO.none _)
   | (with_reducible refine LeO.ite ?_ ?_)
   | (with_reducible refine LeO.bind ?_ (fun _ => ?_))
   | exact ih0 _ _ _ _
   | exact ih1 _ _ _ _ _
   | exact selfstabref23_Tree.mono _ _ _ _ _ _ _
   | exact selfstabref26_Fit.mono _ _ _
   | exact selfstabref26_Least.mono _ _ _
   | exact LeO.none _
   | refine LeO.ite ?_ ?_
   | refine LeO.bind ?_ (fun _ => ?_)
theorem selfstabref26_Legit.mono : ∀ a0 a1 a2 k, LeO (selfstabref26_Legit.f k a0 a1 a2) (selfstabref26_Legit.f (k + 1) a0 a1 a2) := by
 intro a0 a1 a2 k
 obtain ⟨ih0, ih1⟩ := selfstabref26_Legit.mono_l k
 unfold selfstabref26_Legit.f
 repeat' first
   | (with_reducible exact ih0 _ _ _ _)
   | (with_reducible exact ih1 _ _ _ _ _)
   | (with_reducible exact selfstabref23_Tree.mono _ _ _ _ _ _ _)
   | (with_reducible exact selfstabref26_Fit.mono _ _ _)
   | (with_reducible exact selfstabref26_Least.mono _ _ _)
   | (with_reducible exact LeO.refl _)
   | (with_reducible exact LeO.none _)
   | (with_reducible refine LeO.ite ?_ ?_)
   | (with_reducible refine LeO.bind ?_ (fun _ => ?_))
   | exact ih0 _ _ _ _
   | exact ih1 _ _ _ _ _
   | exact selfstabref23_Tree.mono _ _ _ _ _ _ _
   | exact selfstabref26_Fit.mono _ _ _
   | exact selfstabref26_Least.mono _ _ _
   | exact LeO.none _
   | refine LeO.ite ?_ ?_
   | refine LeO.bind ?_ (fun _ => ?_)
def selfstabref26_Legit.T1 : Bool × List (List Nat × List Nat) := (true, [([], []), ([0], [0]), ([1], [1]), ([2, 1], [2]), ([3], [3]), ([3], [3]), ([3, 3], [3]), ([4, 5, 6, 6, 3], [3, 4, 5, 6]), ([7, 3], [3, 7]), ([3, 8], [3, 8])])
def selfstabref26_Legit.B1 : List Nat := [0, 1, 3, 7, 15, 15, 15, 127, 255, 511]
theorem selfstabref26_Legit.tab1 : rtab .any (opsOf Try.f52 1) = selfstabref26_Legit.T1 := by kernel_rfl
theorem selfstabref26_Legit.bits1 : waitsOk selfstabref26_Legit.T1.2 selfstabref26_Legit.B1 = true := by kernel_rfl
def selfstabref26_Legit.T7 : Bool × List (List Nat × List Nat) := (true, [([], []), ([], []), ([0, 1], [0, 1]), ([2], [2]), ([3], [3]), ([4], [4]), ([], []), ([6], [6]), ([], []), ([7, 8], [7, 8]), ([9], [9]), ([5, 10], [5, 10])])
def selfstabref26_Legit.B7 : List Nat := [0, 0, 3, 7, 15, 31, 0, 64, 0, 448, 960, 2047]
theorem selfstabref26_Legit.tab7 : rtab .any (opsOf Try.f52 7) = selfstabref26_Legit.T7 := by kernel_rfl
theorem selfstabref26_Legit.bits7 : waitsOk selfstabref26_Legit.T7.2 selfstabref26_Legit.B7 = true := by kernel_rfl
set_option maxHeartbeats 8000000 in
set_option maxRecDepth 100000 in
theorem selfstabref26_Legit.calls (k : Nat) (A0_0 : Option Addr) (c0_0 : Nat) (l0_0 : List Int) (A0_1 : Option Addr) (c0_1 : Nat) (l0_1 : List (List (S60))) (A1 : Option Addr) (c1 : Nat) (l1 : List (List Int)) (r : Bool) (w : World) (hr0_0 : Kd.C (Kd.int .i64) w A0_0 l0_0.length l0_0) (hc0_0 : l0_0.length ≤ c0_0) (hr0_1 : Kd.C (Kd.slice 60 k60) w A0_1 l0_1.length l0_1) (hc0_1 : l0_1.length ≤ c0_1) (hr1 : Kd.C (Kd.slice 3 (Kd.int .i64)) w A1 l1.length l1) (hc1 : l1.length ≤ c1) (h : selfstabref26_Legit.f k l0_0 l0_1 l1 = some r) :
  Calls Try.prog 52 #[.agg #[.slice A0_0 l0_0.length c0_0, .slice A0_1 l0_1.length c0_1], .slice A1 l1.length c1] w fun e w' => e = .returned (.bool r) ∧ Below w.heap.size w w' := by
 have hu27 := Try.underlying27
 have HR0_0 := Aside0.mk hr0_0
 have HC0_0 := Aside0.mk hc0_0
 clear hr0_0 hc0_0
 have HR0_1 := Aside0.mk hr0_1
 have HC0_1 := Aside0.mk hc0_1
 clear hr0_1 hc0_1
 have HR1 := Aside0.mk hr1
 have HC1 := Aside0.mk hc1
 clear hr1 hc1
 have HB := Aside0.mk (Below.refl w.heap.size w)
 have H : ((selfstabref26_Fit.f k l0_0 l0_1).bind fun t747 => (if t747 = true then ((selfstabref26_Vars.f).bind fun t748 => ((selfstabref23_Config.f l0_0 l0_1 l1 t748).bind fun t751 => (selfstabref26_Legit.j0 k l1 (!t751) l0_0 l0_1))) else (selfstabref26_Legit.j0 k l1 true l0_0 l0_1))) = some r := h
 clear h
 have HC3 := Aside0.mk H
 clear H
 go_enter Try.func52, Try.ntmps52
 go_upto_region 1 with (first | ((with_reducible refine gate_dst (N := 2) rfl ?_); refine box_event ?hg (N := 2) ?hd (cs := #[.slice A0_0 l0_0.length c0_0, .slice A0_1 l0_1.length c0_1]) (t := 27) ?hr ?_; (case hd => rfl); (case hg => rfl); (case hr => first | (go_simp; done) | (go_simp; rfl)); intro gb746 hg w4 hbox hb; have n0_ := Aside0.mk (below_step (by repeat (first | (with_reducible first | exact HB.out | apply below_alloc | apply pw_below_drewN | apply below_drew1) | exact HB.out)) hb); have n1_ := Aside0.mk (hbox); have n2_ := Aside0.mk ((by rw [hg]; exact (below_size (by repeat (first | (with_reducible first | exact HB.out | apply below_alloc | apply pw_below_drewN | apply below_drew1) | exact HB.out))) : w.heap.size ≤ gb746)); have n3_ := Aside0.mk ((by rw [hg]; exact (below_size (by repeat (first | (with_reducible first | exact HB.out | apply below_alloc | apply pw_below_drewN | apply below_drew1) | exact HB.out))) : w.heap.size ≤ gb746)); clear HB; have HB := n0_; have BK746 := n1_; have GW746 := n2_; have GE746 := n3_; clear n0_ n1_ n2_ n3_; clear hb hbox hg))
 (try simp only [Act.put, List.setIfInBounds_toArray, List.set_cons_zero, List.set_cons_succ])
 go_cut [16] (fun v16 wc => ∃ (kq : Nat) (x16_2 : Bool), v16 = .bool x16_2 ∧ Aside0 (selfstabref26_Legit.j0 kq l1 x16_2 l0_0 l0_1 = some r) ∧ Aside0 (kq ≤ k) ∧ Aside0 (wc.heap[gb746]? = some (.cells #[(.slice A0_0 l0_0.length c0_0), (.slice A0_1 l0_1.length c0_1)] 27 (0, 0))) ∧ Aside0 (Below w.heap.size w wc))
 case first =>
  have H := HC3.out
  clear HC3
  replace H := Option.bind_eq_some_iff.mp H
  obtain ⟨t747, A50, H⟩ := H
  replace H : (if t747 = true then ((selfstabref26_Vars.f).bind fun t748 => ((selfstabref23_Config.f l0_0 l0_1 l1 t748).bind fun t751 => (selfstabref26_Legit.j0 k l1 (!t751) l0_0 l0_1))) else (selfstabref26_Legit.j0 k l1 true l0_0 l0_1)) = some r := H
  have A5 := Aside0.mk A50
  clear A50
  by_cases c6 : t747 = true
  ·
   subst c6
   have H1 : ((selfstabref26_Vars.f).bind fun t748 => ((selfstabref23_Config.f l0_0 l0_1 l1 t748).bind fun t751 => (selfstabref26_Legit.j0 k l1 (!t751) l0_0 l0_1))) = some r := by rw [if_pos rfl] at H; exact H
   clear H
   have H := H1
   clear H1
   replace H := Option.bind_eq_some_iff.mp H
   obtain ⟨t748, A70, H⟩ := H
   replace H : ((selfstabref23_Config.f l0_0 l0_1 l1 t748).bind fun t751 => (selfstabref26_Legit.j0 k l1 (!t751) l0_0 l0_1)) = some r := H
   have A7 := Aside0.mk A70
   clear A70
   replace H := Option.bind_eq_some_iff.mp H
   obtain ⟨t751, A80, H⟩ := H
   replace H : (selfstabref26_Legit.j0 k l1 (!t751) l0_0 l0_1) = some r := H
   have A8 := Aside0.mk A80
   clear A80
   have H' := Aside0.mk H
   clear H
   try go_wp2
   have n0_ := Aside0.mk (blk_drew BK746.out)
   have n1_ := Aside0.mk (below_drew1 HB.out)
   clear BK746
   clear HB
   have BK746 := n0_
   have HB := n1_
   clear n0_ n1_
   refine start_ (n := 10) (S := fun w' => w'.cell? ⟨gb746, 0, none⟩ = some (.slice A0_0 l0_0.length c0_0) ∧ w'.cell? ⟨gb746, 1, none⟩ = some (.slice A0_1 l0_1.length c0_1)) (ds := []) #[false, false, false, false, false, false, false, false, false, false] (by kernel_rfl) rfl rfl ⟨(blk_cell BK746.out 0).trans rfl, (blk_cell BK746.out 1).trans rfl⟩ (fun hHeld => ?_); refine with_tabW selfstabref26_Legit.tab1 selfstabref26_Legit.bits1 (fun HT_ HW_ => ?_)
   generalize w4.drew = w9 at BK746 HB hHeld ⊢
   refine take_ (i := 0) (N := some 7) (v := ?_) (a' := ?_) #[true, false, false, false, false, false, false, false, false, false] rfl rfl (take_ofW HT_.out HW_.out (by kernel_rfl)) (fun _ _ _ h => h) (Or.inl ⟨by rfl, ?_⟩) hHeld ?_ ?_
   rotate_left
   ·
    rintro w' ⟨s0, s1⟩
    go_simp
    with_reducible rfl
   rotate_left
   ·
    simp only [Act.put, List.setIfInBounds_toArray, List.set_cons_zero, List.set_cons_succ, i64_w, i32_w]
    rfl
   refine one_ (i := 1) (N := some 8) #[true, true, false, false, false, false, false, false, false, false] rfl rfl (one_of HT_.out (by kernel_rfl)) (by decide) (fun K hK => ?_)
   refine goes_ Try.func50 (by kernel_rfl) rfl #[.agg #[.slice A0_0 l0_0.length c0_0, .slice A0_1 l0_1.length c0_1]] (by rfl) rfl rfl (by (try simp only [List.map_toArray, List.map_cons, List.map_nil]); first | done | rfl | (simp only [List.length_drop, List.length_take]; rfl)) ?_
   with_reducible refine (selfstabref26_Fit.calls k _ _ l0_0 _ _ l0_1 true _ ?side1 ?side2 ?side3 ?side4 A5.out).mono ?_
   (case side1 => repeat (first | exact (Kd.C_below HR0_0.out HB.out) | (with_reducible refine Kd.C_alloc ?_ _) | (with_reducible refine Kd.C_drewN ?_ _) | (with_reducible refine Kd.C_drew ?_)))
   (case side2 => exact HC0_0.out)
   (case side3 => repeat (first | exact (Kd.C_below HR0_1.out HB.out) | (with_reducible refine Kd.C_alloc ?_ _) | (with_reducible refine Kd.C_drewN ?_ _) | (with_reducible refine Kd.C_drew ?_)))
   (case side4 => exact HC0_1.out)
   rintro e w10 ⟨rfl, hb⟩
   refine ⟨_, rfl, ?_⟩
   have n0_ := Aside0.mk (blk_below (g := gb746) (o := .cells #[.slice A0_0 l0_0.length c0_0, .slice A0_1 l0_1.length c0_1] 27 (0, 0)) (by (with_reducible repeat (first | refine blk_drewN ?_ _ | refine blk_drew ?_ | refine blk_alloc ?_ _)); exact BK746.out) hb)
   have n1_ := Aside0.mk (below_step (by repeat (first | (with_reducible first | exact HB.out | apply below_alloc | apply pw_below_drewN | apply below_drew1 | refine below_set ?_ GE746.out) | exact HB.out)) hb)
   clear BK746
   clear HB
   have BK746 := n0_
   have HB := n1_
   clear n0_ n1_
   (try clear hb)
   (try clear hb2)
   (try clear hk)
   (try clear hi)
   refine hK.out _ _ ⟨(blk_cell BK746.out 0).trans rfl, (blk_cell BK746.out 1).trans rfl⟩ (fun hHeld => ?_)
   clear hK K
   refine norm_ (a' := ?_) ?_ ?_
   rotate_left
   ·
    show Act.put _ (some 8) _ = _
    simp only [Act.put, List.setIfInBounds_toArray, List.set_cons_zero, List.set_cons_succ, i64_w, i32_w]
    rfl
   refine pure_ (i := 2) (N := some 9) (v := ?_) (a' := ?_) #[true, true, true, false, false, false, false, false, false, false] rfl rfl (any_of HT_.out (by kernel_rfl)) (fun _ _ _ h => h) (Or.inl ⟨by rfl, ?_⟩) ?_ ?_
   rotate_left
   ·
    intro w'
    go_simp
    with_reducible rfl
   rotate_left
   ·
    simp only [Act.put, List.setIfInBounds_toArray, List.set_cons_zero, List.set_cons_succ, i64_w, i32_w]
    rfl
   refine pure_ (i := 3) (N := some 10) (v := ?_) (a' := ?_) #[true, true, true, true, false, false, false, false, false, false] rfl rfl (any_of HT_.out (by kernel_rfl)) (fun _ _ _ h => h) (Or.inl ⟨by rfl, ?_⟩) ?_ ?_
   rotate_left
   ·
    intro w'
    go_simp
    with_reducible rfl
   rotate_left
   ·
    simp only [Act.put, List.setIfInBounds_toArray, List.set_cons_zero, List.set_cons_succ, i64_w, i32_w]
    rfl
   refine pure_ (i := 5) (N := some 12) (v := ?_) (a' := ?_) #[true, true, true, true, false, true, false, false, false, false] rfl rfl (any_of HT_.out (by kernel_rfl)) (fun _ _ _ h => h) (Or.inl ⟨by rfl, ?_⟩) ?_ ?_
   rotate_left
   ·
    intro w'
    go_simp
    with_reducible rfl
   rotate_left
   ·
    simp only [Act.put, List.setIfInBounds_toArray, List.set_cons_zero, List.set_cons_succ, i64_w, i32_w]
    rfl
   refine take_ (i := 4) (N := some 11) (v := ?_) (a' := ?_) #[true, true, true, true, true, true, false, false, false, false] rfl rfl (take_ofW HT_.out HW_.out (by kernel_rfl)) (fun _ _ _ h => h) (Or.inl ⟨by rfl, ?_⟩) hHeld ?_ ?_
   rotate_left
   ·
    rintro w' ⟨s0, s1⟩
    go_simp
    with_reducible rfl
   rotate_left
   ·
    simp only [Act.put, List.setIfInBounds_toArray, List.set_cons_zero, List.set_cons_succ, i64_w, i32_w]
    rfl
   refine one_ (i := 6) (N := some 13) #[true, true, true, true, true, true, true, false, false, false] rfl rfl (one_of HT_.out (by kernel_rfl)) (by decide) (fun K hK => ?_)
   refine goes_ Try.func102 (by kernel_rfl) rfl #[] (by rfl) rfl rfl (by (try simp only [List.map_toArray, List.map_cons, List.map_nil]); first | done | rfl | (simp only [List.length_drop, List.length_take]; rfl)) ?_
   with_reducible refine (selfstabref26_Vars.calls  t748 _ A7.out).mono ?_
   rintro e w11 ⟨v749, rfl, ho0, hb⟩
   refine ⟨_, rfl, ?_⟩
   have n0_ := Aside0.mk (Kd.R_lower ho0 (below_size (by repeat (first | (with_reducible first | exact HB.out | apply below_alloc | apply pw_below_drewN | apply below_drew1 | refine below_set ?_ GE746.out) | exact HB.out))))
   have n1_ := Aside0.mk (blk_below (g := gb746) (o := .cells #[.slice A0_0 l0_0.length c0_0, .slice A0_1 l0_1.length c0_1] 27 (0, 0)) (by (with_reducible repeat (first | refine blk_drewN ?_ _ | refine blk_drew ?_ | refine blk_alloc ?_ _)); exact BK746.out) hb)
   have n2_ := Aside0.mk (below_step (by repeat (first | (with_reducible first | exact HB.out | apply below_alloc | apply pw_below_drewN | apply below_drew1 | refine below_set ?_ GE746.out) | exact HB.out)) hb)
   clear BK746
   clear HB
   have HO750 := n0_
   have BK746 := n1_
   have HB := n2_
   clear n0_ n1_ n2_
   (try clear hb)
   (try clear hb2)
   (try clear hk)
   (try clear hi)
   (try clear ho0)
   obtain ⟨Ao12, co12, eo12⟩ := Kd.R_slice HO750.out
   (first | subst eo12 | (injection eo12 with f1_ f2_ f3_; have f4_ := f1_.symm; have f5_ := f3_.symm; clear f1_ f2_ f3_; subst f4_; subst f5_))
   refine hK.out _ _ ⟨(blk_cell BK746.out 0).trans rfl, (blk_cell BK746.out 1).trans rfl⟩ (fun hHeld => ?_)
   clear hK K
   refine norm_ (a' := ?_) ?_ ?_
   rotate_left
   ·
    show Act.put _ (some 13) _ = _
    simp only [Act.put, List.setIfInBounds_toArray, List.set_cons_zero, List.set_cons_succ, i64_w, i32_w]
    rfl
   refine one_ (i := 7) (N := some 14) #[true, true, true, true, true, true, true, true, false, false] rfl rfl (one_of HT_.out (by kernel_rfl)) (by decide) (fun K hK => ?_)
   refine goes_ Try.func83 (by kernel_rfl) rfl #[.agg #[.slice A0_0 l0_0.length c0_0, .slice A0_1 l0_1.length c0_1], .slice A1 l1.length c1, .slice Ao12 t748.length co12] (by rfl) rfl rfl (by (try simp only [List.map_toArray, List.map_cons, List.map_nil]); first | done | rfl | (simp only [List.length_drop, List.length_take]; rfl)) ?_
   with_reducible refine (selfstabref23_Config.calls _ _ l0_0 _ _ l0_1 _ _ l1 _ _ t748 t751 _ ?side1 ?side2 ?side3 ?side4 ?side5 ?side6 ?side7 ?side8 A8.out).mono ?_
   (case side1 => repeat (first | exact (Kd.C_below HR0_0.out HB.out) | (with_reducible refine Kd.C_alloc ?_ _) | (with_reducible refine Kd.C_drewN ?_ _) | (with_reducible refine Kd.C_drew ?_)))
   (case side2 => exact HC0_0.out)
   (case side3 => repeat (first | exact (Kd.C_below HR0_1.out HB.out) | (with_reducible refine Kd.C_alloc ?_ _) | (with_reducible refine Kd.C_drewN ?_ _) | (with_reducible refine Kd.C_drew ?_)))
   (case side4 => exact HC0_1.out)
   (case side5 => repeat (first | exact (Kd.C_below HR1.out HB.out) | (with_reducible refine Kd.C_alloc ?_ _) | (with_reducible refine Kd.C_drewN ?_ _) | (with_reducible refine Kd.C_drew ?_)))
   (case side6 => exact HC1.out)
   (case side7 => repeat (first | exact (Kd.R_reads' HO750.out).2.2 | (with_reducible refine Kd.C_alloc ?_ _) | (with_reducible refine Kd.C_drewN ?_ _) | (with_reducible refine Kd.C_drew ?_)))
   (case side8 => exact (Kd.R_reads' HO750.out).2.1)
   rintro e w13 ⟨rfl, hb⟩
   refine ⟨_, rfl, ?_⟩
   have n0_ := Aside0.mk (Kd.R_below (by (with_reducible repeat (first | apply Kd.R_alloc | apply Kd.R_drewN | apply Kd.R_drew)); exact HO750.out) hb)
   have n1_ := Aside0.mk (blk_below (g := gb746) (o := .cells #[.slice A0_0 l0_0.length c0_0, .slice A0_1 l0_1.length c0_1] 27 (0, 0)) (by (with_reducible repeat (first | refine blk_drewN ?_ _ | refine blk_drew ?_ | refine blk_alloc ?_ _)); exact BK746.out) hb)
   have n2_ := Aside0.mk (below_step (by repeat (first | (with_reducible first | exact HB.out | apply below_alloc | apply pw_below_drewN | apply below_drew1 | refine below_set ?_ GE746.out) | exact HB.out)) hb)
   clear HO750
   clear BK746
   clear HB
   have HO750 := n0_
   have BK746 := n1_
   have HB := n2_
   clear n0_ n1_ n2_
   (try clear hb)
   (try clear hb2)
   (try clear hk)
   (try clear hi)
   refine hK.out _ _ ⟨(blk_cell BK746.out 0).trans rfl, (blk_cell BK746.out 1).trans rfl⟩ (fun hHeld => ?_)
   clear hK K
   refine norm_ (a' := ?_) ?_ ?_
   rotate_left
   ·
    show Act.put _ (some 14) _ = _
    simp only [Act.put, List.setIfInBounds_toArray, List.set_cons_zero, List.set_cons_succ, i64_w, i32_w]
    rfl
   refine pure_ (i := 8) (N := some 15) (v := ?_) (a' := ?_) #[true, true, true, true, true, true, true, true, true, false] rfl rfl (any_of HT_.out (by kernel_rfl)) (fun _ _ _ h => h) (Or.inl ⟨by rfl, ?_⟩) ?_ ?_
   rotate_left
   ·
    intro w'
    go_simp
    with_reducible rfl
   rotate_left
   ·
    simp only [Act.put, List.setIfInBounds_toArray, List.set_cons_zero, List.set_cons_succ, i64_w, i32_w]
    rfl
   refine pure_ (i := 9) (N := some 16) (v := ?_) (a' := ?_) #[true, true, true, true, true, true, true, true, true, true] rfl rfl (any_of HT_.out (by kernel_rfl)) (fun _ _ _ h => h) (Or.inl ⟨by rfl, ?_⟩) ?_ ?_
   rotate_left
   ·
    intro w'
    go_simp
    with_reducible rfl
   rotate_left
   ·
    simp only [Act.put, List.setIfInBounds_toArray, List.set_cons_zero, List.set_cons_succ, i64_w, i32_w]
    rfl
   refine done_ (done_of HT_.out (by kernel_rfl)) ?_
   try go_wp2
   go_meet
   case rel => exact ⟨_, (!t751), (by first | rfl | (simp; done) | (simp [*]; done)), H', ⟨by first | omega | exact Nat.le_refl _⟩, ⟨by (with_reducible repeat (first | refine blk_drewN ?_ _ | refine blk_drew ?_ | refine blk_alloc ?_ _)); exact BK746.out⟩, ⟨by repeat (first | (with_reducible first | exact HB.out | apply below_alloc | apply pw_below_drewN | apply below_drew1 | refine below_set ?_ GE746.out) | exact HB.out)⟩⟩
  ·
   replace c6 := Bool.eq_false_iff.mpr c6
   subst c6
   have H1 : (selfstabref26_Legit.j0 k l1 true l0_0 l0_1) = some r := by rw [if_neg (show ¬ (false = true) by decide)] at H; exact H
   clear H
   have H := H1
   clear H1
   have H' := Aside0.mk H
   clear H
   try go_wp2
   have n0_ := Aside0.mk (blk_drew BK746.out)
   have n1_ := Aside0.mk (below_drew1 HB.out)
   clear BK746
   clear HB
   have BK746 := n0_
   have HB := n1_
   clear n0_ n1_
   refine start_ (n := 10) (S := fun w' => w'.cell? ⟨gb746, 0, none⟩ = some (.slice A0_0 l0_0.length c0_0) ∧ w'.cell? ⟨gb746, 1, none⟩ = some (.slice A0_1 l0_1.length c0_1)) (ds := []) #[false, false, false, false, false, false, false, false, false, false] (by kernel_rfl) rfl rfl ⟨(blk_cell BK746.out 0).trans rfl, (blk_cell BK746.out 1).trans rfl⟩ (fun hHeld => ?_); refine with_tabW selfstabref26_Legit.tab1 selfstabref26_Legit.bits1 (fun HT_ HW_ => ?_)
   generalize w4.drew = w14 at BK746 HB hHeld ⊢
   refine take_ (i := 0) (N := some 7) (v := ?_) (a' := ?_) #[true, false, false, false, false, false, false, false, false, false] rfl rfl (take_ofW HT_.out HW_.out (by kernel_rfl)) (fun _ _ _ h => h) (Or.inl ⟨by rfl, ?_⟩) hHeld ?_ ?_
   rotate_left
   ·
    rintro w' ⟨s0, s1⟩
    go_simp
    with_reducible rfl
   rotate_left
   ·
    simp only [Act.put, List.setIfInBounds_toArray, List.set_cons_zero, List.set_cons_succ, i64_w, i32_w]
    rfl
   refine one_ (i := 1) (N := some 8) #[true, true, false, false, false, false, false, false, false, false] rfl rfl (one_of HT_.out (by kernel_rfl)) (by decide) (fun K hK => ?_)
   refine goes_ Try.func50 (by kernel_rfl) rfl #[.agg #[.slice A0_0 l0_0.length c0_0, .slice A0_1 l0_1.length c0_1]] (by rfl) rfl rfl (by (try simp only [List.map_toArray, List.map_cons, List.map_nil]); first | done | rfl | (simp only [List.length_drop, List.length_take]; rfl)) ?_
   with_reducible refine (selfstabref26_Fit.calls k _ _ l0_0 _ _ l0_1 false _ ?side1 ?side2 ?side3 ?side4 A5.out).mono ?_
   (case side1 => repeat (first | exact (Kd.C_below HR0_0.out HB.out) | (with_reducible refine Kd.C_alloc ?_ _) | (with_reducible refine Kd.C_drewN ?_ _) | (with_reducible refine Kd.C_drew ?_)))
   (case side2 => exact HC0_0.out)
   (case side3 => repeat (first | exact (Kd.C_below HR0_1.out HB.out) | (with_reducible refine Kd.C_alloc ?_ _) | (with_reducible refine Kd.C_drewN ?_ _) | (with_reducible refine Kd.C_drew ?_)))
   (case side4 => exact HC0_1.out)
   rintro e w15 ⟨rfl, hb⟩
   refine ⟨_, rfl, ?_⟩
   have n0_ := Aside0.mk (blk_below (g := gb746) (o := .cells #[.slice A0_0 l0_0.length c0_0, .slice A0_1 l0_1.length c0_1] 27 (0, 0)) (by (with_reducible repeat (first | refine blk_drewN ?_ _ | refine blk_drew ?_ | refine blk_alloc ?_ _)); exact BK746.out) hb)
   have n1_ := Aside0.mk (below_step (by repeat (first | (with_reducible first | exact HB.out | apply below_alloc | apply pw_below_drewN | apply below_drew1 | refine below_set ?_ GE746.out) | exact HB.out)) hb)
   clear BK746
   clear HB
   have BK746 := n0_
   have HB := n1_
   clear n0_ n1_
   (try clear hb)
   (try clear hb2)
   (try clear hk)
   (try clear hi)
   refine hK.out _ _ ⟨(blk_cell BK746.out 0).trans rfl, (blk_cell BK746.out 1).trans rfl⟩ (fun hHeld => ?_)
   clear hK K
   refine norm_ (a' := ?_) ?_ ?_
   rotate_left
   ·
    show Act.put _ (some 8) _ = _
    simp only [Act.put, List.setIfInBounds_toArray, List.set_cons_zero, List.set_cons_succ, i64_w, i32_w]
    rfl
   refine pure_ (i := 2) (N := some 9) (v := ?_) (a' := ?_) #[true, true, true, false, false, false, false, false, false, false] rfl rfl (any_of HT_.out (by kernel_rfl)) (fun _ _ _ h => h) (Or.inl ⟨by rfl, ?_⟩) ?_ ?_
   rotate_left
   ·
    intro w'
    go_simp
    with_reducible rfl
   rotate_left
   ·
    simp only [Act.put, List.setIfInBounds_toArray, List.set_cons_zero, List.set_cons_succ, i64_w, i32_w]
    rfl
   refine pure_ (i := 3) (N := some 10) (v := ?_) (a' := ?_) #[true, true, true, true, false, false, false, false, false, false] rfl rfl (any_of HT_.out (by kernel_rfl)) (fun _ _ _ h => h) (Or.inl ⟨by rfl, ?_⟩) ?_ ?_
   rotate_left
   ·
    intro w'
    go_simp
    with_reducible rfl
   rotate_left
   ·
    simp only [Act.put, List.setIfInBounds_toArray, List.set_cons_zero, List.set_cons_succ, i64_w, i32_w]
    rfl
   refine pure_ (i := 4) (N := some 11) (v := undef) (a' := ?_) #[true, true, true, true, true, false, false, false, false, false] rfl rfl (any_of HT_.out (by kernel_rfl)) (fun _ _ _ h => h) (Or.inr ⟨by rfl, rfl⟩) ?_ ?_
   rotate_left
   ·
    simp only [Act.put, List.setIfInBounds_toArray, List.set_cons_zero, List.set_cons_succ, i64_w, i32_w]
    rfl
   refine pure_ (i := 5) (N := some 12) (v := undef) (a' := ?_) #[true, true, true, true, true, true, false, false, false, false] rfl rfl (any_of HT_.out (by kernel_rfl)) (fun _ _ _ h => h) (Or.inr ⟨by rfl, rfl⟩) ?_ ?_
   rotate_left
   ·
    simp only [Act.put, List.setIfInBounds_toArray, List.set_cons_zero, List.set_cons_succ, i64_w, i32_w]
    rfl
   refine pure_ (i := 6) (N := some 13) (v := undef) (a' := ?_) #[true, true, true, true, true, true, true, false, false, false] rfl rfl (any_of HT_.out (by kernel_rfl)) (fun _ _ _ h => h) (Or.inr ⟨by rfl, rfl⟩) ?_ ?_
   rotate_left
   ·
    simp only [Act.put, List.setIfInBounds_toArray, List.set_cons_zero, List.set_cons_succ, i64_w, i32_w]
    rfl
   refine pure_ (i := 7) (N := some 14) (v := undef) (a' := ?_) #[true, true, true, true, true, true, true, true, false, false] rfl rfl (any_of HT_.out (by kernel_rfl)) (fun _ _ _ h => h) (Or.inr ⟨by rfl, rfl⟩) ?_ ?_
   rotate_left
   ·
    simp only [Act.put, List.setIfInBounds_toArray, List.set_cons_zero, List.set_cons_succ, i64_w, i32_w]
    rfl
   refine pure_ (i := 8) (N := some 15) (v := undef) (a' := ?_) #[true, true, true, true, true, true, true, true, true, false] rfl rfl (any_of HT_.out (by kernel_rfl)) (fun _ _ _ h => h) (Or.inr ⟨by rfl, rfl⟩) ?_ ?_
   rotate_left
   ·
    simp only [Act.put, List.setIfInBounds_toArray, List.set_cons_zero, List.set_cons_succ, i64_w, i32_w]
    rfl
   refine pure_ (i := 9) (N := some 16) (v := ?_) (a' := ?_) #[true, true, true, true, true, true, true, true, true, true] rfl rfl (any_of HT_.out (by kernel_rfl)) (fun _ _ _ h => h) (Or.inl ⟨by rfl, ?_⟩) ?_ ?_
   rotate_left
   ·
    intro w'
    go_simp
    with_reducible rfl
   rotate_left
   ·
    simp only [Act.put, List.setIfInBounds_toArray, List.set_cons_zero, List.set_cons_succ, i64_w, i32_w]
    rfl
   refine done_ (done_of HT_.out (by kernel_rfl)) ?_
   try go_wp2
   go_meet
   case rel => exact ⟨_, (true), (by first | rfl | (simp; done) | (simp [*]; done)), H', ⟨by first | omega | exact Nat.le_refl _⟩, ⟨by (with_reducible repeat (first | refine blk_drewN ?_ _ | refine blk_drew ?_ | refine blk_alloc ?_ _)); exact BK746.out⟩, ⟨by repeat (first | (with_reducible first | exact HB.out | apply below_alloc | apply pw_below_drewN | apply below_drew1 | refine below_set ?_ GE746.out) | exact HB.out)⟩⟩
 case rest =>
  clear HC3
  try clear c1
  try clear p2
  try clear c5
  try clear c6
  try clear c8
  try clear c10
  obtain ⟨kq, x16_2, rfl, HA, HJ2, BK746, HB⟩ := hcut
  cases kq with
  | zero => exact absurd HA.out (by simp [selfstabref26_Legit.j0])
  | succ kj2 =>
   have H := HA.out
   clear HA
   simp only [selfstabref26_Legit.j0] at H
   by_cases c16 : x16_2 = true
   ·
    subst c16
    have H1 : (some false) = some r := by rw [if_pos rfl] at H; exact H
    clear H
    have H := H1
    clear H1
    obtain rfl := Option.some.inj H
    go_wp2
    go_ret
    exact ⟨by first | rfl | (simp [errW_none, errW_some] <;> rfl) | (simp [*, errW_none, errW_some] <;> rfl), by repeat (first | (with_reducible first | exact HB.out | apply below_alloc | apply pw_below_drewN | apply below_drew1 | refine below_set ?_ GE746.out) | exact HB.out)⟩
   ·
    replace c16 := Bool.eq_false_iff.mpr c16
    subst c16
    have H1 : ((selfstabref26_Least.f kj2 l0_0 l0_1).bind fun t752 => (selfstabref26_Legit.l0 kj2 l1 t752 0 l0_0 l0_1)) = some r := by rw [if_neg (show ¬ (false = true) by decide)] at H; exact H
    clear H
    have H := H1
    clear H1
    replace H := Option.bind_eq_some_iff.mp H
    obtain ⟨t752, A170, H⟩ := H
    replace H : (selfstabref26_Legit.l0 kj2 l1 t752 0 l0_0 l0_1) = some r := H
    have A17 := Aside0.mk A170
    clear A170
    have H' := Aside0.mk H
    clear H
    have hcz18_0 : wc.cell? ⟨gb746, 0, none⟩ = some (.slice A0_0 l0_0.length c0_0) := (blk_cell BK746.out 0).trans rfl
    have hcz18_1 : wc.cell? ⟨gb746, 1, none⟩ = some (.slice A0_1 l0_1.length c0_1) := (blk_cell BK746.out 1).trans rfl
    have hfz18_0 := blk_frozen BK746.out 0
    have hfz18_1 := blk_frozen BK746.out 1
    go_wp2_with (first | ((with_reducible refine gate_callee (f := 103) rfl ?_); refine goesL_ (some 18) rfl rfl Try.func103 (by kernel_rfl) rfl #[.agg #[.slice A0_0 l0_0.length c0_0, .slice A0_1 l0_1.length c0_1]] rfl (by (try simp only [List.map_toArray, List.map_cons, List.map_nil]); first | done | rfl | (simp only [List.length_drop, List.length_take]; rfl)) ?_; (with_reducible refine (selfstabref26_Least.calls kj2 _ _ l0_0 _ _ l0_1 t752 _ ?side1 ?side2 ?side3 ?side4 A17.out).mono ?_); (case side1 => repeat (first | exact (Kd.C_below HR0_0.out HB.out) | (with_reducible refine Kd.C_alloc ?_ _) | (with_reducible refine Kd.C_drewN ?_ _) | (with_reducible refine Kd.C_drew ?_))); (case side2 => exact HC0_0.out); (case side3 => repeat (first | exact (Kd.C_below HR0_1.out HB.out) | (with_reducible refine Kd.C_alloc ?_ _) | (with_reducible refine Kd.C_drewN ?_ _) | (with_reducible refine Kd.C_drew ?_))); (case side4 => exact HC0_1.out); rintro e w19 ⟨rfl, hb⟩; refine ⟨_, rfl, ?_⟩; have n0_ := Aside0.mk (blk_below (g := gb746) (o := .cells #[.slice A0_0 l0_0.length c0_0, .slice A0_1 l0_1.length c0_1] 27 (0, 0)) (by (with_reducible repeat (first | refine blk_drewN ?_ _ | refine blk_drew ?_ | refine blk_alloc ?_ _)); exact BK746.out) hb); have n1_ := Aside0.mk (below_step (by repeat (first | (with_reducible first | exact HB.out | apply below_alloc | apply pw_below_drewN | apply below_drew1 | refine below_set ?_ GE746.out) | exact HB.out)) hb); clear BK746; clear HB; have BK746 := n0_; have HB := n1_; clear n0_ n1_; (try clear hb); (try clear hb2); (try clear hk); (try clear hi)))
    go_loopg [6] kj2 (fun kq v6 w' => ∃ (x6_2 : Int), v6 = .int .i64 x6_2 ∧ Aside0 (selfstabref26_Legit.l0 kq l1 t752 x6_2 l0_0 l0_1 = some r) ∧ Aside0 (kq ≤ kj2) ∧ Aside0 (w'.heap[gb746]? = some (.cells #[(.slice A0_0 l0_0.length c0_0), (.slice A0_1 l0_1.length c0_1)] 27 (0, 0))) ∧ Aside0 (Below w.heap.size w w'))
    case atStart => exact ⟨(0), (by first | rfl | (simp; done) | (simp [*]; done)), H', ⟨Nat.le_refl _⟩, ⟨by (with_reducible repeat (first | refine blk_drewN ?_ _ | refine blk_drew ?_ | refine blk_alloc ?_ _)); exact BK746.out⟩, ⟨by repeat (first | (with_reducible first | exact HB.out | apply below_alloc | apply pw_below_drewN | apply below_drew1 | refine below_set ?_ GE746.out) | exact HB.out)⟩⟩
    case round =>
     clear H'
     try clear c1
     try clear p2
     try clear c5
     try clear c6
     try clear c8
     try clear c10
     try clear c16
     try clear hcz18_0
     try clear hcz18_1
     try clear hfz18_0
     try clear hfz18_1
     try clear p2
     obtain ⟨x6_2, rfl, HA, HK2, BK746, HB⟩ := hrel
     cases gk with
     | zero => exact absurd HA.out (by simp [selfstabref26_Legit.l0])
     | succ k2 =>
      have H := HA.out
      clear HA
      simp only [selfstabref26_Legit.l0] at H
      by_cases c20 : x6_2 < (l1.length : Int)
      ·
       rw [if_pos c20] at H
       have c20b0 : decide (x6_2 < (l1.length : Int)) = true := decide_eq_true c20
       clear c20
       by_cases c21 : 0 ≤ x6_2
       ·
        rw [if_pos c21] at H
        have c21b0 : decide (0 ≤ x6_2) = true := decide_eq_true c21
        clear c21
        by_cases c22 : 0 < ((rd_L3 l1 x6_2).length : Int)
        ·
         rw [if_pos c22] at H
         have c22b0 : decide (0 < ((rd_L3 l1 x6_2).length : Int)) = true := decide_eq_true c22
         have c22b1 : decide (0 < (rd_L3 l1 x6_2).length) = true := decide_eq_true (by omega)
         clear c22
         by_cases c23 : 0 ≤ t752
         ·
          rw [if_pos c23] at H
          have c23b0 : decide (0 ≤ t752) = true := decide_eq_true c23
          clear c23
          by_cases c24 : t752 < (l0_0.length : Int)
          ·
           rw [if_pos c24] at H
           have c24b0 : decide (t752 < (l0_0.length : Int)) = true := decide_eq_true c24
           clear c24
           by_cases c25 : (rd (rd_L3 l1 x6_2) 0) = (rd l0_0 t752)
           ·
            rw [if_pos c25] at H
            have c25b0 : ((rd (rd_L3 l1 x6_2) 0) == (rd l0_0 t752)) = true := beq_iff_eq.mpr c25
            have c25b1 : ((rd (rd_L3 l1 x6_2) 0) != (rd l0_0 t752)) = false := bne_eq_false_iff_eq.mpr c25
            clear c25
            have H' := Aside0.mk H
            clear H
            try go_wp2
            have n0_ := Aside0.mk (blk_drew BK746.out)
            have n1_ := Aside0.mk (below_drew1 HB.out)
            clear BK746
            clear HB
            have BK746 := n0_
            have HB := n1_
            clear n0_ n1_
            have p753 : 0 ≤ (x6_2 : Int) := of_decide_eq_true (by first | (with_reducible assumption) | assumption)
            have q753 : x6_2 < (l1.length : Int) := of_decide_eq_true (by first | (with_reducible assumption) | assumption)
            obtain ⟨ad753, A753_0, c753_0, e753, hx753_0, hl753_0, hi753_0⟩ := at_L3 HR1.out x6_2 p753 q753
            have hw753_0 := hx753_0
            cases e753
            replace hx753_0 := (HB.out.cell (World.block_lt_of_cell? w _ hx753_0)).trans hx753_0
            have HR753_0 := Aside0.mk hi753_0
            have HC753_0 := Aside0.mk hl753_0
            clear hi753_0 hl753_0
            replace p753 := eq_true p753
            replace q753 := eq_true q753
            have p754 : 0 ≤ (0 : Int) := (by omega)
            have q754 : 0 < ((rd_L3 l1 x6_2).length : Int) := of_decide_eq_true (by first | (with_reducible assumption) | assumption)
            obtain ⟨ad754, e754, hx754_0⟩ := Kd.at_int HR753_0.out 0 p754 q754
            have hw754_0 := hx754_0
            (try rw [show ((0 : Int)).toNat = 0 from rfl] at hw754_0)
            (try rw [show 0 * 1 = 0 from rfl] at hw754_0)
            (try rw [Addr.add_zero'] at hw754_0)
            cases e754
            have qi754 : (0 < (rd_L3 l1 x6_2).length) = True := eq_true (by omega)
            (try rw [show ((0 : Int)).toNat = 0 from rfl] at hx754_0)
            (try rw [Addr.add_zero'] at hx754_0)
            replace hx754_0 := (HB.out.cell (World.block_lt_of_cell? w _ hx754_0)).trans hx754_0
            replace p754 := eq_true p754
            replace q754 := eq_true q754
            have p755 : 0 ≤ (t752 : Int) := of_decide_eq_true (by first | (with_reducible assumption) | assumption)
            have q755 : t752 < (l0_0.length : Int) := of_decide_eq_true (by first | (with_reducible assumption) | assumption)
            obtain ⟨ad755, e755, hx755_0⟩ := Kd.at_int HR0_0.out t752 p755 q755
            have hw755_0 := hx755_0
            cases e755
            replace hx755_0 := (HB.out.cell (World.block_lt_of_cell? w _ hx755_0)).trans hx755_0
            replace p755 := eq_true p755
            replace q755 := eq_true q755
            refine start_ (n := 12) (S := fun w' => w'.cell? ⟨gb746, 0, none⟩ = some (.slice (some ad755) l0_0.length c0_0) ∧ w'.cell? ⟨gb746, 1, none⟩ = some (.slice A0_1 l0_1.length c0_1) ∧ w'.cell? (ad753.add (x6_2).toNat) = some (.slice (some ad754) (rd_L3 l1 x6_2).length c753_0) ∧ w'.cell? ad754 = some (.int .i64 (rd (rd_L3 l1 x6_2) 0)) ∧ w'.cell? (ad755.add (t752).toNat) = some (.int .i64 (rd l0_0 t752))) (ds := []) #[false, false, false, false, false, false, false, false, false, false, false, false] (by kernel_rfl) rfl rfl ⟨(blk_cell BK746.out 0).trans rfl, (blk_cell BK746.out 1).trans rfl, ((HB.out.cell (World.block_lt_of_cell? w _ hw753_0)).trans hw753_0), ((HB.out.cell (World.block_lt_of_cell? w _ hw754_0)).trans hw754_0), ((HB.out.cell (World.block_lt_of_cell? w _ hw755_0)).trans hw755_0)⟩ (fun hHeld => ?_); refine with_tabW selfstabref26_Legit.tab7 selfstabref26_Legit.bits7 (fun HT_ HW_ => ?_)
            generalize wr.drew = w26 at BK746 HB HR753_0 hx753_0 hx754_0 hx755_0 hHeld ⊢
            refine pure_ (i := 0) (N := some 25) (v := ?_) (a' := ?_) #[true, false, false, false, false, false, false, false, false, false, false, false] rfl rfl (any_of HT_.out (by kernel_rfl)) (fun _ _ _ h => h) (Or.inl ⟨by rfl, ?_⟩) ?_ ?_
            rotate_left
            ·
             intro w'
             go_simp
             with_reducible rfl
            rotate_left
            ·
             simp only [Act.put, List.setIfInBounds_toArray, List.set_cons_zero, List.set_cons_succ, i64_w, i32_w]
             rfl
            refine pure_ (i := 1) (N := some 26) (v := ?_) (a' := ?_) #[true, true, false, false, false, false, false, false, false, false, false, false] rfl rfl (any_of HT_.out (by kernel_rfl)) (fun _ _ _ h => h) (Or.inl ⟨by rfl, ?_⟩) ?_ ?_
            rotate_left
            ·
             intro w'
             go_simp
             with_reducible rfl
            rotate_left
            ·
             simp only [Act.put, List.setIfInBounds_toArray, List.set_cons_zero, List.set_cons_succ, i64_w, i32_w]
             rfl
            refine pure_ (i := 2) (N := some 27) (v := ?_) (a' := ?_) #[true, true, true, false, false, false, false, false, false, false, false, false] rfl rfl (any_of HT_.out (by kernel_rfl)) (fun _ _ _ h => h) (Or.inl ⟨by rfl, ?_⟩) ?_ ?_
            rotate_left
            ·
             intro w'
             go_simp
             with_reducible rfl
            rotate_left
            ·
             simp only [Act.put, List.setIfInBounds_toArray, List.set_cons_zero, List.set_cons_succ, i64_w, i32_w]
             rfl
            refine pure_ (i := 6) (N := some 31) (v := ?_) (a' := ?_) #[true, true, true, false, false, false, true, false, false, false, false, false] rfl rfl (any_of HT_.out (by kernel_rfl)) (fun _ _ _ h => h) (Or.inl ⟨by rfl, ?_⟩) ?_ ?_
            rotate_left
            ·
             intro w'
             go_simp
             with_reducible rfl
            rotate_left
            ·
             simp only [Act.put, List.setIfInBounds_toArray, List.set_cons_zero, List.set_cons_succ, i64_w, i32_w]
             rfl
            refine pure_ (i := 8) (N := some 33) (v := ?_) (a' := ?_) #[true, true, true, false, false, false, true, false, true, false, false, false] rfl rfl (any_of HT_.out (by kernel_rfl)) (fun _ _ _ h => h) (Or.inl ⟨by rfl, ?_⟩) ?_ ?_
            rotate_left
            ·
             intro w'
             go_simp
             with_reducible rfl
            rotate_left
            ·
             simp only [Act.put, List.setIfInBounds_toArray, List.set_cons_zero, List.set_cons_succ, i64_w, i32_w]
             rfl
            refine take_ (i := 3) (N := some 28) (v := ?_) (a' := ?_) #[true, true, true, true, false, false, true, false, true, false, false, false] rfl rfl (take_ofW HT_.out HW_.out (by kernel_rfl)) (fun _ _ _ h => h) (Or.inl ⟨by rfl, ?_⟩) hHeld ?_ ?_
            rotate_left
            ·
             rintro w' ⟨s0, s1, s2, s3, s4⟩
             go_simp
             with_reducible rfl
            rotate_left
            ·
             simp only [Act.put, List.setIfInBounds_toArray, List.set_cons_zero, List.set_cons_succ, i64_w, i32_w]
             rfl
            refine pure_ (i := 4) (N := some 29) (v := ?_) (a' := ?_) #[true, true, true, true, true, false, true, false, true, false, false, false] rfl rfl (any_of HT_.out (by kernel_rfl)) (fun _ _ _ h => h) (Or.inl ⟨by rfl, ?_⟩) ?_ ?_
            rotate_left
            ·
             intro w'
             go_simp
             with_reducible rfl
            rotate_left
            ·
             simp only [Act.put, List.setIfInBounds_toArray, List.set_cons_zero, List.set_cons_succ, i64_w, i32_w]
             rfl
            refine take_ (i := 5) (N := some 30) (v := ?_) (a' := ?_) #[true, true, true, true, true, true, true, false, true, false, false, false] rfl rfl (take_ofW HT_.out HW_.out (by kernel_rfl)) (fun _ _ _ h => h) (Or.inl ⟨by rfl, ?_⟩) hHeld ?_ ?_
            rotate_left
            ·
             rintro w' ⟨s0, s1, s2, s3, s4⟩
             go_simp
             with_reducible rfl
            rotate_left
            ·
             simp only [Act.put, List.setIfInBounds_toArray, List.set_cons_zero, List.set_cons_succ, i64_w, i32_w]
             rfl
            refine take_ (i := 7) (N := some 32) (v := ?_) (a' := ?_) #[true, true, true, true, true, true, true, true, true, false, false, false] rfl rfl (take_ofW HT_.out HW_.out (by kernel_rfl)) (fun _ _ _ h => h) (Or.inl ⟨by rfl, ?_⟩) hHeld ?_ ?_
            rotate_left
            ·
             rintro w' ⟨s0, s1, s2, s3, s4⟩
             go_simp
             with_reducible rfl
            rotate_left
            ·
             simp only [Act.put, List.setIfInBounds_toArray, List.set_cons_zero, List.set_cons_succ, i64_w, i32_w]
             rfl
            refine pure_ (i := 9) (N := some 34) (v := ?_) (a' := ?_) #[true, true, true, true, true, true, true, true, true, true, false, false] rfl rfl (any_of HT_.out (by kernel_rfl)) (fun _ _ _ h => h) (Or.inl ⟨by rfl, ?_⟩) ?_ ?_
            rotate_left
            ·
             intro w'
             go_simp
             with_reducible rfl
            rotate_left
            ·
             simp only [Act.put, List.setIfInBounds_toArray, List.set_cons_zero, List.set_cons_succ, i64_w, i32_w]
             rfl
            refine take_ (i := 10) (N := some 35) (v := ?_) (a' := ?_) #[true, true, true, true, true, true, true, true, true, true, true, false] rfl rfl (take_ofW HT_.out HW_.out (by kernel_rfl)) (fun _ _ _ h => h) (Or.inl ⟨by rfl, ?_⟩) hHeld ?_ ?_
            rotate_left
            ·
             rintro w' ⟨s0, s1, s2, s3, s4⟩
             go_simp
             with_reducible rfl
            rotate_left
            ·
             simp only [Act.put, List.setIfInBounds_toArray, List.set_cons_zero, List.set_cons_succ, i64_w, i32_w]
             rfl
            refine pure_ (i := 11) (N := some 36) (v := ?_) (a' := ?_) #[true, true, true, true, true, true, true, true, true, true, true, true] rfl rfl (any_of HT_.out (by kernel_rfl)) (fun _ _ _ h => h) (Or.inl ⟨by rfl, ?_⟩) ?_ ?_
            rotate_left
            ·
             intro w'
             go_simp
             with_reducible rfl
            rotate_left
            ·
             simp only [Act.put, List.setIfInBounds_toArray, List.set_cons_zero, List.set_cons_succ, i64_w, i32_w]
             rfl
            refine done_ (done_of HT_.out (by kernel_rfl)) ?_
            try go_wp2
            go_roundg k2
            case measure => have := HJ2.out; have := HK2.out; omega
            case rel => exact ⟨(wrap64 (x6_2 + 1)), (by first | rfl | (simp; done) | (simp [*]; done)), H', ⟨by have := HJ2.out; have := HK2.out; omega⟩, ⟨by (with_reducible repeat (first | refine blk_drewN ?_ _ | refine blk_drew ?_ | refine blk_alloc ?_ _)); exact BK746.out⟩, ⟨by repeat (first | (with_reducible first | exact HB.out | apply below_alloc | apply pw_below_drewN | apply below_drew1 | refine below_set ?_ GE746.out) | exact HB.out)⟩⟩
           ·
            rw [if_neg c25] at H
            have c25b0 : ((rd (rd_L3 l1 x6_2) 0) == (rd l0_0 t752)) = false := beq_eq_false_iff_ne.mpr c25
            have c25b1 : ((rd (rd_L3 l1 x6_2) 0) != (rd l0_0 t752)) = true := bne_iff_ne.mpr c25
            obtain rfl := Option.some.inj H
            try go_wp2
            have n0_ := Aside0.mk (blk_drew BK746.out)
            have n1_ := Aside0.mk (below_drew1 HB.out)
            clear BK746
            clear HB
            have BK746 := n0_
            have HB := n1_
            clear n0_ n1_
            have p753 : 0 ≤ (x6_2 : Int) := of_decide_eq_true (by first | (with_reducible assumption) | assumption)
            have q753 : x6_2 < (l1.length : Int) := of_decide_eq_true (by first | (with_reducible assumption) | assumption)
            obtain ⟨ad753, A753_0, c753_0, e753, hx753_0, hl753_0, hi753_0⟩ := at_L3 HR1.out x6_2 p753 q753
            have hw753_0 := hx753_0
            cases e753
            replace hx753_0 := (HB.out.cell (World.block_lt_of_cell? w _ hx753_0)).trans hx753_0
            have HR753_0 := Aside0.mk hi753_0
            have HC753_0 := Aside0.mk hl753_0
            clear hi753_0 hl753_0
            replace p753 := eq_true p753
            replace q753 := eq_true q753
            have p754 : 0 ≤ (0 : Int) := (by omega)
            have q754 : 0 < ((rd_L3 l1 x6_2).length : Int) := of_decide_eq_true (by first | (with_reducible assumption) | assumption)
            obtain ⟨ad754, e754, hx754_0⟩ := Kd.at_int HR753_0.out 0 p754 q754
            have hw754_0 := hx754_0
            (try rw [show ((0 : Int)).toNat = 0 from rfl] at hw754_0)
            (try rw [show 0 * 1 = 0 from rfl] at hw754_0)
            (try rw [Addr.add_zero'] at hw754_0)
            cases e754
            have qi754 : (0 < (rd_L3 l1 x6_2).length) = True := eq_true (by omega)
            (try rw [show ((0 : Int)).toNat = 0 from rfl] at hx754_0)
            (try rw [Addr.add_zero'] at hx754_0)
            replace hx754_0 := (HB.out.cell (World.block_lt_of_cell? w _ hx754_0)).trans hx754_0
            replace p754 := eq_true p754
            replace q754 := eq_true q754
            have p755 : 0 ≤ (t752 : Int) := of_decide_eq_true (by first | (with_reducible assumption) | assumption)
            have q755 : t752 < (l0_0.length : Int) := of_decide_eq_true (by first | (with_reducible assumption) | assumption)
            obtain ⟨ad755, e755, hx755_0⟩ := Kd.at_int HR0_0.out t752 p755 q755
            have hw755_0 := hx755_0
            cases e755
            replace hx755_0 := (HB.out.cell (World.block_lt_of_cell? w _ hx755_0)).trans hx755_0
            replace p755 := eq_true p755
            replace q755 := eq_true q755
            refine start_ (n := 12) (S := fun w' => w'.cell? ⟨gb746, 0, none⟩ = some (.slice (some ad755) l0_0.length c0_0) ∧ w'.cell? ⟨gb746, 1, none⟩ = some (.slice A0_1 l0_1.length c0_1) ∧ w'.cell? (ad753.add (x6_2).toNat) = some (.slice (some ad754) (rd_L3 l1 x6_2).length c753_0) ∧ w'.cell? ad754 = some (.int .i64 (rd (rd_L3 l1 x6_2) 0)) ∧ w'.cell? (ad755.add (t752).toNat) = some (.int .i64 (rd l0_0 t752))) (ds := []) #[false, false, false, false, false, false, false, false, false, false, false, false] (by kernel_rfl) rfl rfl ⟨(blk_cell BK746.out 0).trans rfl, (blk_cell BK746.out 1).trans rfl, ((HB.out.cell (World.block_lt_of_cell? w _ hw753_0)).trans hw753_0), ((HB.out.cell (World.block_lt_of_cell? w _ hw754_0)).trans hw754_0), ((HB.out.cell (World.block_lt_of_cell? w _ hw755_0)).trans hw755_0)⟩ (fun hHeld => ?_); refine with_tabW selfstabref26_Legit.tab7 selfstabref26_Legit.bits7 (fun HT_ HW_ => ?_)
            generalize wr.drew = w27 at BK746 HB HR753_0 hx753_0 hx754_0 hx755_0 hHeld ⊢
            refine pure_ (i := 0) (N := some 25) (v := ?_) (a' := ?_) #[true, false, false, false, false, false, false, false, false, false, false, false] rfl rfl (any_of HT_.out (by kernel_rfl)) (fun _ _ _ h => h) (Or.inl ⟨by rfl, ?_⟩) ?_ ?_
            rotate_left
            ·
             intro w'
             go_simp
             with_reducible rfl
            rotate_left
            ·
             simp only [Act.put, List.setIfInBounds_toArray, List.set_cons_zero, List.set_cons_succ, i64_w, i32_w]
             rfl
            refine pure_ (i := 1) (N := some 26) (v := ?_) (a' := ?_) #[true, true, false, false, false, false, false, false, false, false, false, false] rfl rfl (any_of HT_.out (by kernel_rfl)) (fun _ _ _ h => h) (Or.inl ⟨by rfl, ?_⟩) ?_ ?_
            rotate_left
            ·
             intro w'
             go_simp
             with_reducible rfl
            rotate_left
            ·
             simp only [Act.put, List.setIfInBounds_toArray, List.set_cons_zero, List.set_cons_succ, i64_w, i32_w]
             rfl
            refine pure_ (i := 2) (N := some 27) (v := ?_) (a' := ?_) #[true, true, true, false, false, false, false, false, false, false, false, false] rfl rfl (any_of HT_.out (by kernel_rfl)) (fun _ _ _ h => h) (Or.inl ⟨by rfl, ?_⟩) ?_ ?_
            rotate_left
            ·
             intro w'
             go_simp
             with_reducible rfl
            rotate_left
            ·
             simp only [Act.put, List.setIfInBounds_toArray, List.set_cons_zero, List.set_cons_succ, i64_w, i32_w]
             rfl
            refine pure_ (i := 6) (N := some 31) (v := ?_) (a' := ?_) #[true, true, true, false, false, false, true, false, false, false, false, false] rfl rfl (any_of HT_.out (by kernel_rfl)) (fun _ _ _ h => h) (Or.inl ⟨by rfl, ?_⟩) ?_ ?_
            rotate_left
            ·
             intro w'
             go_simp
             with_reducible rfl
            rotate_left
            ·
             simp only [Act.put, List.setIfInBounds_toArray, List.set_cons_zero, List.set_cons_succ, i64_w, i32_w]
             rfl
            refine pure_ (i := 8) (N := some 33) (v := ?_) (a' := ?_) #[true, true, true, false, false, false, true, false, true, false, false, false] rfl rfl (any_of HT_.out (by kernel_rfl)) (fun _ _ _ h => h) (Or.inl ⟨by rfl, ?_⟩) ?_ ?_
            rotate_left
            ·
             intro w'
             go_simp
             with_reducible rfl
            rotate_left
            ·
             simp only [Act.put, List.setIfInBounds_toArray, List.set_cons_zero, List.set_cons_succ, i64_w, i32_w]
             rfl
            refine take_ (i := 3) (N := some 28) (v := ?_) (a' := ?_) #[true, true, true, true, false, false, true, false, true, false, false, false] rfl rfl (take_ofW HT_.out HW_.out (by kernel_rfl)) (fun _ _ _ h => h) (Or.inl ⟨by rfl, ?_⟩) hHeld ?_ ?_
            rotate_left
            ·
             rintro w' ⟨s0, s1, s2, s3, s4⟩
             go_simp
             with_reducible rfl
            rotate_left
            ·
             simp only [Act.put, List.setIfInBounds_toArray, List.set_cons_zero, List.set_cons_succ, i64_w, i32_w]
             rfl
            refine pure_ (i := 4) (N := some 29) (v := ?_) (a' := ?_) #[true, true, true, true, true, false, true, false, true, false, false, false] rfl rfl (any_of HT_.out (by kernel_rfl)) (fun _ _ _ h => h) (Or.inl ⟨by rfl, ?_⟩) ?_ ?_
            rotate_left
            ·
             intro w'
             go_simp
             with_reducible rfl
            rotate_left
            ·
             simp only [Act.put, List.setIfInBounds_toArray, List.set_cons_zero, List.set_cons_succ, i64_w, i32_w]
             rfl
            refine take_ (i := 5) (N := some 30) (v := ?_) (a' := ?_) #[true, true, true, true, true, true, true, false, true, false, false, false] rfl rfl (take_ofW HT_.out HW_.out (by kernel_rfl)) (fun _ _ _ h => h) (Or.inl ⟨by rfl, ?_⟩) hHeld ?_ ?_
            rotate_left
            ·
             rintro w' ⟨s0, s1, s2, s3, s4⟩
             go_simp
             with_reducible rfl
            rotate_left
            ·
             simp only [Act.put, List.setIfInBounds_toArray, List.set_cons_zero, List.set_cons_succ, i64_w, i32_w]
             rfl
            refine take_ (i := 7) (N := some 32) (v := ?_) (a' := ?_) #[true, true, true, true, true, true, true, true, true, false, false, false] rfl rfl (take_ofW HT_.out HW_.out (by kernel_rfl)) (fun _ _ _ h => h) (Or.inl ⟨by rfl, ?_⟩) hHeld ?_ ?_
            rotate_left
            ·
             rintro w' ⟨s0, s1, s2, s3, s4⟩
             go_simp
             with_reducible rfl
            rotate_left
            ·
             simp only [Act.put, List.setIfInBounds_toArray, List.set_cons_zero, List.set_cons_succ, i64_w, i32_w]
             rfl
            refine pure_ (i := 9) (N := some 34) (v := ?_) (a' := ?_) #[true, true, true, true, true, true, true, true, true, true, false, false] rfl rfl (any_of HT_.out (by kernel_rfl)) (fun _ _ _ h => h) (Or.inl ⟨by rfl, ?_⟩) ?_ ?_
            rotate_left
            ·
             intro w'
             go_simp
             with_reducible rfl
            rotate_left
            ·
             simp only [Act.put, List.setIfInBounds_toArray, List.set_cons_zero, List.set_cons_succ, i64_w, i32_w]
             rfl
            refine take_ (i := 10) (N := some 35) (v := ?_) (a' := ?_) #[true, true, true, true, true, true, true, true, true, true, true, false] rfl rfl (take_ofW HT_.out HW_.out (by kernel_rfl)) (fun _ _ _ h => h) (Or.inl ⟨by rfl, ?_⟩) hHeld ?_ ?_
            rotate_left
            ·
             rintro w' ⟨s0, s1, s2, s3, s4⟩
             go_simp
             with_reducible rfl
            rotate_left
            ·
             simp only [Act.put, List.setIfInBounds_toArray, List.set_cons_zero, List.set_cons_succ, i64_w, i32_w]
             rfl
            refine pure_ (i := 11) (N := some 36) (v := ?_) (a' := ?_) #[true, true, true, true, true, true, true, true, true, true, true, true] rfl rfl (any_of HT_.out (by kernel_rfl)) (fun _ _ _ h => h) (Or.inl ⟨by rfl, ?_⟩) ?_ ?_
            rotate_left
            ·
             intro w'
             go_simp
             with_reducible rfl
            rotate_left
            ·
             simp only [Act.put, List.setIfInBounds_toArray, List.set_cons_zero, List.set_cons_succ, i64_w, i32_w]
             rfl
            refine done_ (done_of HT_.out (by kernel_rfl)) ?_
            try go_wp2
            go_ret
            exact ⟨by first | rfl | (simp [errW_none, errW_some] <;> rfl) | (simp [*, errW_none, errW_some] <;> rfl), by repeat (first | (with_reducible first | exact HB.out | apply below_alloc | apply pw_below_drewN | apply below_drew1 | refine below_set ?_ GE746.out) | exact HB.out)⟩
          ·
           rw [if_neg c24] at H
           exact absurd H (by simp)
         ·
          rw [if_neg c23] at H
          exact absurd H (by simp)
        ·
         rw [if_neg c22] at H
         exact absurd H (by simp)
       ·
        rw [if_neg c21] at H
        exact absurd H (by simp)
      ·
       rw [if_neg c20] at H
       have c20b0 : decide (x6_2 < (l1.length : Int)) = false := decide_eq_false c20
       clear c20
       replace H := Option.bind_eq_some_iff.mp H
       obtain ⟨t756, A280, H⟩ := H
       replace H : (some t756) = some r := H
       have A28 := Aside0.mk A280
       clear A280
       obtain rfl := Option.some.inj H
       have hcz29_0 : wr.cell? ⟨gb746, 0, none⟩ = some (.slice A0_0 l0_0.length c0_0) := (blk_cell BK746.out 0).trans rfl
       have hcz29_1 : wr.cell? ⟨gb746, 1, none⟩ = some (.slice A0_1 l0_1.length c0_1) := (blk_cell BK746.out 1).trans rfl
       have hfz29_0 := blk_frozen BK746.out 0
       have hfz29_1 := blk_frozen BK746.out 1
       go_wp2_with (first | ((with_reducible refine gate_callee (f := 93) rfl ?_); refine goesL_ (some 40) rfl rfl Try.func93 (by kernel_rfl) rfl #[.agg #[.slice A0_0 l0_0.length c0_0, .slice A0_1 l0_1.length c0_1], .slice A1 l1.length c1, .int .i64 t752, .int .i64 1, .int .i64 2] rfl (by (try simp only [List.map_toArray, List.map_cons, List.map_nil]); first | done | rfl | (simp only [List.length_drop, List.length_take]; rfl)) ?_; (with_reducible refine (selfstabref23_Tree.calls k2 _ _ l0_0 _ _ l0_1 _ _ l1 t752 1 2 t756 _ ?side1 ?side2 ?side3 ?side4 ?side5 ?side6 A28.out).mono ?_); (case side1 => repeat (first | exact (Kd.C_below HR0_0.out HB.out) | (with_reducible refine Kd.C_alloc ?_ _) | (with_reducible refine Kd.C_drewN ?_ _) | (with_reducible refine Kd.C_drew ?_))); (case side2 => exact HC0_0.out); (case side3 => repeat (first | exact (Kd.C_below HR0_1.out HB.out) | (with_reducible refine Kd.C_alloc ?_ _) | (with_reducible refine Kd.C_drewN ?_ _) | (with_reducible refine Kd.C_drew ?_))); (case side4 => exact HC0_1.out); (case side5 => repeat (first | exact (Kd.C_below HR1.out HB.out) | (with_reducible refine Kd.C_alloc ?_ _) | (with_reducible refine Kd.C_drewN ?_ _) | (with_reducible refine Kd.C_drew ?_))); (case side6 => exact HC1.out); rintro e w30 ⟨rfl, hb⟩; refine ⟨_, rfl, ?_⟩; have n0_ := Aside0.mk (blk_below (g := gb746) (o := .cells #[.slice A0_0 l0_0.length c0_0, .slice A0_1 l0_1.length c0_1] 27 (0, 0)) (by (with_reducible repeat (first | refine blk_drewN ?_ _ | refine blk_drew ?_ | refine blk_alloc ?_ _)); exact BK746.out) hb); have n1_ := Aside0.mk (below_step (by repeat (first | (with_reducible first | exact HB.out | apply below_alloc | apply pw_below_drewN | apply below_drew1 | refine below_set ?_ GE746.out) | exact HB.out)) hb); clear BK746; clear HB; have BK746 := n0_; have HB := n1_; clear n0_ n1_; (try clear hb); (try clear hb2); (try clear hk); (try clear hi)))
       go_ret
       exact ⟨by first | rfl | (simp [errW_none, errW_some] <;> rfl) | (simp [*, errW_none, errW_some] <;> rfl), by repeat (first | (with_reducible first | exact HB.out | apply below_alloc | apply pw_below_drewN | apply below_drew1 | refine below_set ?_ GE746.out) | exact HB.out)⟩
end Go.Proofs.YthapikakneikbaaG
namespace Go.Proofs.YthapikakneikbaaG
open Go.RowKit Go.Proofs.YthapikakneikbaaW.PrintWords Go.Proofs.YthapikakneikbaaW.PrintLast Go.Proofs.YthapikakneikbaaW.PrintMore
attribute [local go_sem] max2_int min2_int max_two min_two max_three min_three max_four min_four   -- for this text's walks alone
set_option linter.unusedVariables false
set_option linter.unusedSimpArgs false
def selfstabref26_Claim.f (k : Nat) (l0_0 : List Int) (l0_1 : List (List (S60))) : Option (Int × Bool × Bool × Int × Int) := (selfstabref26_Fit.f k l0_0 l0_1).bind fun t759 => (if t759 = true then ((selfstabref26_Least.f k l0_0 l0_1).bind fun t760 => ((selfstabref01_Eccentricity.f k l0_0 l0_1 t760).bind fun t761 => (some (3, false, true, wrap64 ((l0_1.length : Int) + t761), (-1))))) else (some (0, false, false, 0, 0)))
theorem selfstabref26_Claim.mono : ∀ a0 a1 k, LeO (selfstabref26_Claim.f k a0 a1) (selfstabref26_Claim.f (k + 1) a0 a1) := by
 intro a0 a1 k
 unfold selfstabref26_Claim.f
 repeat' first
   | (with_reducible exact selfstabref01_Eccentricity.mono _ _ _ _)
   | (with_reducible exact selfstabref26_Fit.mono _ _ _)
   | (with_reducible exact selfstabref26_Least.mono _ _ _)
   | (with_reducible exact LeO.refl _)
   | (with_reducible exact LeO.none _)
   | (with_reducible refine LeO.ite ?_ ?_)
   | (with_reducible refine LeO.bind ?_ (fun _ => ?_))
   | exact selfstabref01_Eccentricity.mono _ _ _ _
   | exact selfstabref26_Fit.mono _ _ _
   | exact selfstabref26_Least.mono _ _ _
   | exact LeO.none _
   | refine LeO.ite ?_ ?_
   | refine LeO.bind ?_ (fun _ => ?_)
def selfstabref26_Claim.T3 : Bool × List (List Nat × List Nat) := (true, [([], []), ([0], [0]), ([1], [1]), ([], []), ([], []), ([4], [4]), ([3, 5, 5], [3, 5]), ([2, 6], [2, 6]), ([7], [7]), ([8, 6, 0, 1, 2, 3, 4, 5, 6, 7, 8], [8])])
def selfstabref26_Claim.B3 : List Nat := [0, 1, 3, 0, 0, 16, 56, 127, 255, 511]
theorem selfstabref26_Claim.tab3 : rtab .any (opsOf Try.f54 3) = selfstabref26_Claim.T3 := by kernel_rfl
theorem selfstabref26_Claim.bits3 : waitsOk selfstabref26_Claim.T3.2 selfstabref26_Claim.B3 = true := by kernel_rfl
set_option maxHeartbeats 8000000 in
set_option maxRecDepth 100000 in
theorem selfstabref26_Claim.calls (k : Nat) (A0_0 : Option Addr) (c0_0 : Nat) (l0_0 : List Int) (A0_1 : Option Addr) (c0_1 : Nat) (l0_1 : List (List (S60))) (r1 : Int) (r2 : Bool) (r3 : Bool) (r4 : Int) (r5 : Int) (w : World) (hr0_0 : Kd.C (Kd.int .i64) w A0_0 l0_0.length l0_0) (hc0_0 : l0_0.length ≤ c0_0) (hr0_1 : Kd.C (Kd.slice 60 k60) w A0_1 l0_1.length l0_1) (hc0_1 : l0_1.length ≤ c0_1) (h : selfstabref26_Claim.f k l0_0 l0_1 = some (r1, r2, r3, r4, r5)) :
  Calls Try.prog 54 #[.agg #[.slice A0_0 l0_0.length c0_0, .slice A0_1 l0_1.length c0_1]] w fun e w' => e = .returned (.agg #[.int .i64 r1, .bool r2, .bool r3, .int .i64 r4, .int .i64 r5]) ∧ Below w.heap.size w w' := by
 have hu27 := Try.underlying27
 have hu44 := Try.underlying44
 have HR0_0 := Aside0.mk hr0_0
 have HC0_0 := Aside0.mk hc0_0
 clear hr0_0 hc0_0
 have HR0_1 := Aside0.mk hr0_1
 have HC0_1 := Aside0.mk hc0_1
 clear hr0_1 hc0_1
 have HB := Aside0.mk (Below.refl w.heap.size w)
 have H : ((selfstabref26_Fit.f k l0_0 l0_1).bind fun t759 => (if t759 = true then ((selfstabref26_Least.f k l0_0 l0_1).bind fun t760 => ((selfstabref01_Eccentricity.f k l0_0 l0_1 t760).bind fun t761 => (some (3, false, true, wrap64 ((l0_1.length : Int) + t761), (-1))))) else (some (0, false, false, 0, 0)))) = some (r1, r2, r3, r4, r5) := h
 clear h
 replace H := Option.bind_eq_some_iff.mp H
 obtain ⟨t759, A20, H⟩ := H
 replace H : (if t759 = true then ((selfstabref26_Least.f k l0_0 l0_1).bind fun t760 => ((selfstabref01_Eccentricity.f k l0_0 l0_1 t760).bind fun t761 => (some (3, false, true, wrap64 ((l0_1.length : Int) + t761), (-1))))) else (some (0, false, false, 0, 0))) = some (r1, r2, r3, r4, r5) := H
 have A2 := Aside0.mk A20
 clear A20
 by_cases c3 : t759 = true
 ·
  subst c3
  have H1 : ((selfstabref26_Least.f k l0_0 l0_1).bind fun t760 => ((selfstabref01_Eccentricity.f k l0_0 l0_1 t760).bind fun t761 => (some (3, false, true, wrap64 ((l0_1.length : Int) + t761), (-1))))) = some (r1, r2, r3, r4, r5) := by rw [if_pos rfl] at H; exact H
  clear H
  have H := H1
  clear H1
  replace H := Option.bind_eq_some_iff.mp H
  obtain ⟨t760, A40, H⟩ := H
  replace H : ((selfstabref01_Eccentricity.f k l0_0 l0_1 t760).bind fun t761 => (some (3, false, true, wrap64 ((l0_1.length : Int) + t761), (-1)))) = some (r1, r2, r3, r4, r5) := H
  have A4 := Aside0.mk A40
  clear A40
  replace H := Option.bind_eq_some_iff.mp H
  obtain ⟨t761, A50, H⟩ := H
  replace H : (some (3, false, true, wrap64 ((l0_1.length : Int) + t761), (-1))) = some (r1, r2, r3, r4, r5) := H
  have A5 := Aside0.mk A50
  clear A50
  simp only [Option.some.injEq, Prod.mk.injEq] at H
  obtain ⟨rfl, rfl, rfl, rfl, rfl⟩ := H
  go_enter Try.func54, Try.ntmps54
  try go_wp2_with (first | ((with_reducible refine gate_dst (N := 1) rfl ?_); refine box_event ?hg (N := 1) ?hd (cs := #[.slice A0_0 l0_0.length c0_0, .slice A0_1 l0_1.length c0_1]) (t := 27) ?hr ?_; (case hd => rfl); (case hg => rfl); (case hr => first | (go_simp; done) | (go_simp; rfl)); intro gb757 hg w6 hbox hb; have n0_ := Aside0.mk (below_step (by repeat (first | (with_reducible first | exact HB.out | apply below_alloc | apply pw_below_drewN | apply below_drew1) | exact HB.out)) hb); have n1_ := Aside0.mk (hbox); have n2_ := Aside0.mk ((by rw [hg]; exact (below_size (by repeat (first | (with_reducible first | exact HB.out | apply below_alloc | apply pw_below_drewN | apply below_drew1) | exact HB.out))) : w.heap.size ≤ gb757)); have n3_ := Aside0.mk ((by rw [hg]; exact (below_size (by repeat (first | (with_reducible first | exact HB.out | apply below_alloc | apply pw_below_drewN | apply below_drew1) | exact HB.out))) : w.heap.size ≤ gb757)); clear HB; have HB := n0_; have BK757 := n1_; have GW757 := n2_; have GE757 := n3_; clear n0_ n1_ n2_ n3_; clear hb hbox hg) | ((with_reducible refine gate_dst (N := 2) rfl ?_); refine box_event ?hg (N := 2) ?hd (cs := #[.int .i64 0, .bool false, .bool false, .int .i64 0, .int .i64 0]) (t := 44) ?hr ?_; (case hd => rfl); (case hg => rfl); (case hr => first | (go_simp; done) | (go_simp; rfl)); intro gb758 hg w7 hbox hb; have n0_ := Aside0.mk (blk_below (g := gb757) (o := .cells #[.slice A0_0 l0_0.length c0_0, .slice A0_1 l0_1.length c0_1] 27 (0, 0)) (by (with_reducible repeat (first | refine blk_drewN ?_ _ | refine blk_drew ?_ | refine blk_alloc ?_ _)); exact BK757.out) hb); have n1_ := Aside0.mk (below_step (by repeat (first | (with_reducible first | exact HB.out | apply below_alloc | apply pw_below_drewN | apply below_drew1 | refine below_set ?_ GE757.out) | exact HB.out)) hb); have n2_ := Aside0.mk (hbox); have n3_ := Aside0.mk ((by rw [hg]; exact (below_size (by repeat (first | (with_reducible first | exact HB.out | apply below_alloc | apply pw_below_drewN | apply below_drew1 | refine below_set ?_ GE757.out) | exact HB.out))) : w.heap.size ≤ gb758)); have n4_ := Aside0.mk ((by rw [hg]; exact (below_size (by repeat (first | (with_reducible first | exact HB.out | apply below_alloc | apply pw_below_drewN | apply below_drew1 | refine below_set ?_ GE757.out) | exact HB.out))) : w.heap.size ≤ gb758)); have n5_ := Aside0.mk ((by rw [hg]; exact Nat.ne_of_lt (blk_lt (g := gb757) (o := .cells #[.slice A0_0 l0_0.length c0_0, .slice A0_1 l0_1.length c0_1] 27 (0, 0)) (by (with_reducible repeat (first | refine blk_drewN ?_ _ | refine blk_drew ?_ | refine blk_alloc ?_ _)); exact BK757.out)) : gb757 ≠ gb758)); have n6_ := Aside0.mk ((by rw [hg]; exact Nat.ne_of_gt (blk_lt (g := gb757) (o := .cells #[.slice A0_0 l0_0.length c0_0, .slice A0_1 l0_1.length c0_1] 27 (0, 0)) (by (with_reducible repeat (first | refine blk_drewN ?_ _ | refine blk_drew ?_ | refine blk_alloc ?_ _)); exact BK757.out)) : gb758 ≠ gb757)); clear BK757; clear HB; have BK757 := n0_; have HB := n1_; have BK758 := n2_; have GW758 := n3_; have GE758 := n4_; have NB757_758 := n5_; have NB758_757 := n6_; clear n0_ n1_ n2_ n3_ n4_ n5_ n6_; clear hb hbox hg; have hnb8 := NB757_758.out; have hnc8 := NB758_757.out; have hcz9_0 : w7.cell? ⟨gb757, 0, none⟩ = some (.slice A0_0 l0_0.length c0_0) := (blk_cell BK757.out 0).trans rfl; have hcz9_1 : w7.cell? ⟨gb757, 1, none⟩ = some (.slice A0_1 l0_1.length c0_1) := (blk_cell BK757.out 1).trans rfl; have hfz9_0 := blk_frozen BK757.out 0; have hfz9_1 := blk_frozen BK757.out 1) | ((with_reducible refine gate_callee (f := 50) rfl ?_); refine goesL_ (some 4) rfl rfl Try.func50 (by kernel_rfl) rfl #[.agg #[.slice A0_0 l0_0.length c0_0, .slice A0_1 l0_1.length c0_1]] rfl (by (try simp only [List.map_toArray, List.map_cons, List.map_nil]); first | done | rfl | (simp only [List.length_drop, List.length_take]; rfl)) ?_; (with_reducible refine (selfstabref26_Fit.calls k _ _ l0_0 _ _ l0_1 true _ ?side1 ?side2 ?side3 ?side4 A2.out).mono ?_); (case side1 => repeat (first | exact (Kd.C_below HR0_0.out HB.out) | (with_reducible refine Kd.C_alloc ?_ _) | (with_reducible refine Kd.C_drewN ?_ _) | (with_reducible refine Kd.C_drew ?_))); (case side2 => exact HC0_0.out); (case side3 => repeat (first | exact (Kd.C_below HR0_1.out HB.out) | (with_reducible refine Kd.C_alloc ?_ _) | (with_reducible refine Kd.C_drewN ?_ _) | (with_reducible refine Kd.C_drew ?_))); (case side4 => exact HC0_1.out); rintro e w10 ⟨rfl, hb⟩; refine ⟨_, rfl, ?_⟩; have n0_ := Aside0.mk (blk_below (g := gb757) (o := .cells #[.slice A0_0 l0_0.length c0_0, .slice A0_1 l0_1.length c0_1] 27 (0, 0)) (by (with_reducible repeat (first | refine blk_drewN ?_ _ | refine blk_drew ?_ | refine blk_alloc ?_ _)); exact BK757.out) hb); have n1_ := Aside0.mk (blk_below (g := gb758) (o := .cells #[.int .i64 0, .bool false, .bool false, .int .i64 0, .int .i64 0] 44 (0, 0)) (by (with_reducible repeat (first | refine blk_drewN ?_ _ | refine blk_drew ?_ | refine blk_alloc ?_ _)); exact BK758.out) hb); have n2_ := Aside0.mk (below_step (by repeat (first | (with_reducible first | exact HB.out | apply below_alloc | apply pw_below_drewN | apply below_drew1 | refine below_set ?_ GE757.out | refine below_set ?_ GE758.out) | exact HB.out)) hb); clear BK757; clear BK758; clear HB; have BK757 := n0_; have BK758 := n1_; have HB := n2_; clear n0_ n1_ n2_; (try clear hb); (try clear hb2); (try clear hk); (try clear hi)))
  have n0_ := Aside0.mk (blk_drew BK757.out)
  have n1_ := Aside0.mk (blk_drew BK758.out)
  have n2_ := Aside0.mk (below_drew1 HB.out)
  clear BK757
  clear BK758
  clear HB
  have BK757 := n0_
  have BK758 := n1_
  have HB := n2_
  clear n0_ n1_ n2_
  refine start_ (n := 10) (S := fun w' => w'.cell? ⟨gb757, 0, none⟩ = some (.slice A0_0 l0_0.length c0_0) ∧ w'.cell? ⟨gb757, 1, none⟩ = some (.slice A0_1 l0_1.length c0_1)) (ds := []) #[false, false, false, false, false, false, false, false, false, false] (by kernel_rfl) rfl rfl ⟨(blk_cell BK757.out 0).trans rfl, (blk_cell BK757.out 1).trans rfl⟩ (fun hHeld => ?_); refine with_tabW selfstabref26_Claim.tab3 selfstabref26_Claim.bits3 (fun HT_ HW_ => ?_)
  generalize w10.drew = w11 at BK757 BK758 HB hHeld ⊢
  refine pure_ (i := 0) (N := some 7) (v := ?_) (a' := ?_) #[true, false, false, false, false, false, false, false, false, false] rfl rfl (any_of HT_.out (by kernel_rfl)) (fun _ _ _ h => h) (Or.inl ⟨by rfl, ?_⟩) ?_ ?_
  rotate_left
  ·
   intro w'
   go_simp
   with_reducible rfl
  rotate_left
  ·
   simp only [Act.put, List.setIfInBounds_toArray, List.set_cons_zero, List.set_cons_succ, i64_w, i32_w]
   rfl
  refine take_ (i := 1) (N := some 8) (v := ?_) (a' := ?_) #[true, true, false, false, false, false, false, false, false, false] rfl rfl (take_ofW HT_.out HW_.out (by kernel_rfl)) (fun _ _ _ h => h) (Or.inl ⟨by rfl, ?_⟩) hHeld ?_ ?_
  rotate_left
  ·
   rintro w' ⟨s0, s1⟩
   go_simp
   with_reducible rfl
  rotate_left
  ·
   simp only [Act.put, List.setIfInBounds_toArray, List.set_cons_zero, List.set_cons_succ, i64_w, i32_w]
   rfl
  refine pure_ (i := 2) (N := some 9) (v := ?_) (a' := ?_) #[true, true, true, false, false, false, false, false, false, false] rfl rfl (any_of HT_.out (by kernel_rfl)) (fun _ _ _ h => h) (Or.inl ⟨by rfl, ?_⟩) ?_ ?_
  rotate_left
  ·
   intro w'
   go_simp
   with_reducible rfl
  rotate_left
  ·
   simp only [Act.put, List.setIfInBounds_toArray, List.set_cons_zero, List.set_cons_succ, i64_w, i32_w]
   rfl
  refine take_ (i := 3) (N := some 10) (v := ?_) (a' := ?_) #[true, true, true, true, false, false, false, false, false, false] rfl rfl (take_ofW HT_.out HW_.out (by kernel_rfl)) (fun _ _ _ h => h) (Or.inl ⟨by rfl, ?_⟩) hHeld ?_ ?_
  rotate_left
  ·
   rintro w' ⟨s0, s1⟩
   go_simp
   with_reducible rfl
  rotate_left
  ·
   simp only [Act.put, List.setIfInBounds_toArray, List.set_cons_zero, List.set_cons_succ, i64_w, i32_w]
   rfl
  refine take_ (i := 4) (N := some 11) (v := ?_) (a' := ?_) #[true, true, true, true, true, false, false, false, false, false] rfl rfl (take_ofW HT_.out HW_.out (by kernel_rfl)) (fun _ _ _ h => h) (Or.inl ⟨by rfl, ?_⟩) hHeld ?_ ?_
  rotate_left
  ·
   rintro w' ⟨s0, s1⟩
   go_simp
   with_reducible rfl
  rotate_left
  ·
   simp only [Act.put, List.setIfInBounds_toArray, List.set_cons_zero, List.set_cons_succ, i64_w, i32_w]
   rfl
  refine one_ (i := 5) (N := some 12) #[true, true, true, true, true, true, false, false, false, false] rfl rfl (one_of HT_.out (by kernel_rfl)) (by decide) (fun K hK => ?_)
  refine goes_ Try.func103 (by kernel_rfl) rfl #[.agg #[.slice A0_0 l0_0.length c0_0, .slice A0_1 l0_1.length c0_1]] (by rfl) rfl rfl (by (try simp only [List.map_toArray, List.map_cons, List.map_nil]); first | done | rfl | (simp only [List.length_drop, List.length_take]; rfl)) ?_
  with_reducible refine (selfstabref26_Least.calls k _ _ l0_0 _ _ l0_1 t760 _ ?side1 ?side2 ?side3 ?side4 A4.out).mono ?_
  (case side1 => repeat (first | exact (Kd.C_below HR0_0.out HB.out) | (with_reducible refine Kd.C_alloc ?_ _) | (with_reducible refine Kd.C_drewN ?_ _) | (with_reducible refine Kd.C_drew ?_)))
  (case side2 => exact HC0_0.out)
  (case side3 => repeat (first | exact (Kd.C_below HR0_1.out HB.out) | (with_reducible refine Kd.C_alloc ?_ _) | (with_reducible refine Kd.C_drewN ?_ _) | (with_reducible refine Kd.C_drew ?_)))
  (case side4 => exact HC0_1.out)
  rintro e w12 ⟨rfl, hb⟩
  refine ⟨_, rfl, ?_⟩
  have n0_ := Aside0.mk (blk_below (g := gb757) (o := .cells #[.slice A0_0 l0_0.length c0_0, .slice A0_1 l0_1.length c0_1] 27 (0, 0)) (by (with_reducible repeat (first | refine blk_drewN ?_ _ | refine blk_drew ?_ | refine blk_alloc ?_ _)); exact BK757.out) hb)
  have n1_ := Aside0.mk (blk_below (g := gb758) (o := .cells #[.int .i64 0, .bool false, .bool false, .int .i64 0, .int .i64 0] 44 (0, 0)) (by (with_reducible repeat (first | refine blk_drewN ?_ _ | refine blk_drew ?_ | refine blk_alloc ?_ _)); exact BK758.out) hb)
  have n2_ := Aside0.mk (below_step (by repeat (first | (with_reducible first | exact HB.out | apply below_alloc | apply pw_below_drewN | apply below_drew1 | refine below_set ?_ GE757.out | refine below_set ?_ GE758.out) | exact HB.out)) hb)
  clear BK757
  clear BK758
  clear HB
  have BK757 := n0_
  have BK758 := n1_
  have HB := n2_
  clear n0_ n1_ n2_
  (try clear hb)
  (try clear hb2)
  (try clear hk)
  (try clear hi)
  refine hK.out _ _ ⟨(blk_cell BK757.out 0).trans rfl, (blk_cell BK757.out 1).trans rfl⟩ (fun hHeld => ?_)
  clear hK K
  refine norm_ (a' := ?_) ?_ ?_
  rotate_left
  ·
   show Act.put _ (some 12) _ = _
   simp only [Act.put, List.setIfInBounds_toArray, List.set_cons_zero, List.set_cons_succ, i64_w, i32_w]
   rfl
  refine one_ (i := 6) (N := some 13) #[true, true, true, true, true, true, true, false, false, false] rfl rfl (one_of HT_.out (by kernel_rfl)) (by decide) (fun K hK => ?_)
  refine goes_ Try.func95 (by kernel_rfl) rfl #[.agg #[.slice A0_0 l0_0.length c0_0, .slice A0_1 l0_1.length c0_1], .int .i64 t760] (by rfl) rfl rfl (by (try simp only [List.map_toArray, List.map_cons, List.map_nil]); first | done | rfl | (simp only [List.length_drop, List.length_take]; rfl)) ?_
  with_reducible refine (selfstabref01_Eccentricity.calls k _ _ l0_0 _ _ l0_1 t760 t761 _ ?side1 ?side2 ?side3 ?side4 A5.out).mono ?_
  (case side1 => repeat (first | exact (Kd.C_below HR0_0.out HB.out) | (with_reducible refine Kd.C_alloc ?_ _) | (with_reducible refine Kd.C_drewN ?_ _) | (with_reducible refine Kd.C_drew ?_)))
  (case side2 => exact HC0_0.out)
  (case side3 => repeat (first | exact (Kd.C_below HR0_1.out HB.out) | (with_reducible refine Kd.C_alloc ?_ _) | (with_reducible refine Kd.C_drewN ?_ _) | (with_reducible refine Kd.C_drew ?_)))
  (case side4 => exact HC0_1.out)
  rintro e w13 ⟨rfl, hb⟩
  refine ⟨_, rfl, ?_⟩
  have n0_ := Aside0.mk (blk_below (g := gb757) (o := .cells #[.slice A0_0 l0_0.length c0_0, .slice A0_1 l0_1.length c0_1] 27 (0, 0)) (by (with_reducible repeat (first | refine blk_drewN ?_ _ | refine blk_drew ?_ | refine blk_alloc ?_ _)); exact BK757.out) hb)
  have n1_ := Aside0.mk (blk_below (g := gb758) (o := .cells #[.int .i64 0, .bool false, .bool false, .int .i64 0, .int .i64 0] 44 (0, 0)) (by (with_reducible repeat (first | refine blk_drewN ?_ _ | refine blk_drew ?_ | refine blk_alloc ?_ _)); exact BK758.out) hb)
  have n2_ := Aside0.mk (below_step (by repeat (first | (with_reducible first | exact HB.out | apply below_alloc | apply pw_below_drewN | apply below_drew1 | refine below_set ?_ GE757.out | refine below_set ?_ GE758.out) | exact HB.out)) hb)
  clear BK757
  clear BK758
  clear HB
  have BK757 := n0_
  have BK758 := n1_
  have HB := n2_
  clear n0_ n1_ n2_
  (try clear hb)
  (try clear hb2)
  (try clear hk)
  (try clear hi)
  refine hK.out _ _ ⟨(blk_cell BK757.out 0).trans rfl, (blk_cell BK757.out 1).trans rfl⟩ (fun hHeld => ?_)
  clear hK K
  refine norm_ (a' := ?_) ?_ ?_
  rotate_left
  ·
   show Act.put _ (some 13) _ = _
   simp only [Act.put, List.setIfInBounds_toArray, List.set_cons_zero, List.set_cons_succ, i64_w, i32_w]
   rfl
  refine pure_ (i := 7) (N := some 14) (v := ?_) (a' := ?_) #[true, true, true, true, true, true, true, true, false, false] rfl rfl (any_of HT_.out (by kernel_rfl)) (fun _ _ _ h => h) (Or.inl ⟨by rfl, ?_⟩) ?_ ?_
  rotate_left
  ·
   intro w'
   go_simp
   with_reducible rfl
  rotate_left
  ·
   simp only [Act.put, List.setIfInBounds_toArray, List.set_cons_zero, List.set_cons_succ, i64_w, i32_w]
   rfl
  refine pure_ (i := 8) (N := some 15) (v := ?_) (a' := ?_) #[true, true, true, true, true, true, true, true, true, false] rfl rfl (any_of HT_.out (by kernel_rfl)) (fun _ _ _ h => h) (Or.inl ⟨by rfl, ?_⟩) ?_ ?_
  rotate_left
  ·
   intro w'
   go_simp
   with_reducible rfl
  rotate_left
  ·
   simp only [Act.put, List.setIfInBounds_toArray, List.set_cons_zero, List.set_cons_succ, i64_w, i32_w]
   rfl
  refine one_ (i := 9) (N := none) #[true, true, true, true, true, true, true, true, true, true] rfl rfl (one_of HT_.out (by kernel_rfl)) (by decide) (fun K hK => ?_)
  have hs14 : w13.cell? ⟨gb758, 0, none⟩ = some (.int .i64 0) := (blk_cell BK758.out 0).trans rfl
  have hfs14 := blk_frozen BK758.out 0
  have hns14_0 := NB757_758.out
  have hms14_0 := NB758_757.out
  have hs15 : w13.cell? ⟨gb758, 1, none⟩ = some (.bool false) := (blk_cell BK758.out 1).trans rfl
  have hfs15 := blk_frozen BK758.out 1
  have hns15_0 := NB757_758.out
  have hms15_0 := NB758_757.out
  have hs16 : w13.cell? ⟨gb758, 2, none⟩ = some (.bool false) := (blk_cell BK758.out 2).trans rfl
  have hfs16 := blk_frozen BK758.out 2
  have hns16_0 := NB757_758.out
  have hms16_0 := NB758_757.out
  have hs17 : w13.cell? ⟨gb758, 3, none⟩ = some (.int .i64 0) := (blk_cell BK758.out 3).trans rfl
  have hfs17 := blk_frozen BK758.out 3
  have hns17_0 := NB757_758.out
  have hms17_0 := NB758_757.out
  have hs18 : w13.cell? ⟨gb758, 4, none⟩ = some (.int .i64 0) := (blk_cell BK758.out 4).trans rfl
  have hfs18 := blk_frozen BK758.out 4
  have hns18_0 := NB757_758.out
  have hms18_0 := NB758_757.out
  refine skip_ (w1 := ?_) (by rfl) rfl ?_ ?_
  rotate_left
  ·
   go_simp
   rfl
  refine hK.out _ _ ⟨((cell_far (p := ⟨gb758, _, none⟩) NB757_758.out _).trans (((cell_far (p := ⟨gb758, _, none⟩) NB757_758.out _).trans (((cell_far (p := ⟨gb758, _, none⟩) NB757_758.out _).trans (((cell_far (p := ⟨gb758, _, none⟩) NB757_758.out _).trans (((cell_far (p := ⟨gb758, _, none⟩) NB757_758.out _).trans (hHeld.1)))))))))), ((cell_far (p := ⟨gb758, _, none⟩) NB757_758.out _).trans (((cell_far (p := ⟨gb758, _, none⟩) NB757_758.out _).trans (((cell_far (p := ⟨gb758, _, none⟩) NB757_758.out _).trans (((cell_far (p := ⟨gb758, _, none⟩) NB757_758.out _).trans (((cell_far (p := ⟨gb758, _, none⟩) NB757_758.out _).trans (hHeld.2))))))))))⟩ (fun hHeld => ?_)
  clear hK K
  refine done_ (done_of HT_.out (by kernel_rfl)) ?_
  try go_wp2
  refine bodyPost_ret (results_cell_row rfl _ _ gb758 44 #[.int .i64 3, .bool false, .bool true, .int .i64 (wrap64 ((l0_1.length : Int) + t761)), .int .i64 (-1)] (0, 0) _ rfl (by (with_reducible repeat (first | refine blk_drewN ?_ _ | refine blk_drew ?_ | refine blk_alloc ?_ _)); refine blk_put (cs := #[.int .i64 3, .bool false, .bool true, .int .i64 (wrap64 ((l0_1.length : Int) + t761)), .int .i64 0]) ?_ 4 _ rfl; (with_reducible repeat (first | refine blk_drewN ?_ _ | refine blk_drew ?_ | refine blk_alloc ?_ _)); refine blk_put (cs := #[.int .i64 3, .bool false, .bool true, .int .i64 0, .int .i64 0]) ?_ 3 _ rfl; (with_reducible repeat (first | refine blk_drewN ?_ _ | refine blk_drew ?_ | refine blk_alloc ?_ _)); refine blk_put (cs := #[.int .i64 3, .bool false, .bool false, .int .i64 0, .int .i64 0]) ?_ 2 _ rfl; (with_reducible repeat (first | refine blk_drewN ?_ _ | refine blk_drew ?_ | refine blk_alloc ?_ _)); refine blk_put (cs := #[.int .i64 3, .bool false, .bool false, .int .i64 0, .int .i64 0]) ?_ 1 _ rfl; (with_reducible repeat (first | refine blk_drewN ?_ _ | refine blk_drew ?_ | refine blk_alloc ?_ _)); refine blk_put (cs := #[.int .i64 0, .bool false, .bool false, .int .i64 0, .int .i64 0]) ?_ 0 _ rfl; (with_reducible repeat (first | refine blk_drewN ?_ _ | refine blk_drew ?_ | refine blk_alloc ?_ _)); exact BK758.out) Try.underlying44 rfl (by kernel_rfl)) rfl ?_
  exact ⟨by first | rfl | (simp [errW_none, errW_some] <;> rfl) | (simp [*, errW_none, errW_some] <;> rfl), by repeat (first | (with_reducible first | exact HB.out | apply below_alloc | apply pw_below_drewN | apply below_drew1 | refine below_set ?_ GE757.out | refine below_set ?_ GE758.out) | exact HB.out)⟩
 ·
  replace c3 := Bool.eq_false_iff.mpr c3
  subst c3
  have H1 : (some (0, false, false, 0, 0)) = some (r1, r2, r3, r4, r5) := by rw [if_neg (show ¬ (false = true) by decide)] at H; exact H
  clear H
  have H := H1
  clear H1
  simp only [Option.some.injEq, Prod.mk.injEq] at H
  obtain ⟨rfl, rfl, rfl, rfl, rfl⟩ := H
  go_enter Try.func54, Try.ntmps54
  go_wp2_with (first | ((with_reducible refine gate_dst (N := 1) rfl ?_); refine box_event ?hg (N := 1) ?hd (cs := #[.slice A0_0 l0_0.length c0_0, .slice A0_1 l0_1.length c0_1]) (t := 27) ?hr ?_; (case hd => rfl); (case hg => rfl); (case hr => first | (go_simp; done) | (go_simp; rfl)); intro gb757 hg w19 hbox hb; have n0_ := Aside0.mk (below_step (by repeat (first | (with_reducible first | exact HB.out | apply below_alloc | apply pw_below_drewN | apply below_drew1) | exact HB.out)) hb); have n1_ := Aside0.mk (hbox); have n2_ := Aside0.mk ((by rw [hg]; exact (below_size (by repeat (first | (with_reducible first | exact HB.out | apply below_alloc | apply pw_below_drewN | apply below_drew1) | exact HB.out))) : w.heap.size ≤ gb757)); have n3_ := Aside0.mk ((by rw [hg]; exact (below_size (by repeat (first | (with_reducible first | exact HB.out | apply below_alloc | apply pw_below_drewN | apply below_drew1) | exact HB.out))) : w.heap.size ≤ gb757)); clear HB; have HB := n0_; have BK757 := n1_; have GW757 := n2_; have GE757 := n3_; clear n0_ n1_ n2_ n3_; clear hb hbox hg) | ((with_reducible refine gate_dst (N := 2) rfl ?_); refine box_event ?hg (N := 2) ?hd (cs := #[.int .i64 0, .bool false, .bool false, .int .i64 0, .int .i64 0]) (t := 44) ?hr ?_; (case hd => rfl); (case hg => rfl); (case hr => first | (go_simp; done) | (go_simp; rfl)); intro gb758 hg w20 hbox hb; have n0_ := Aside0.mk (blk_below (g := gb757) (o := .cells #[.slice A0_0 l0_0.length c0_0, .slice A0_1 l0_1.length c0_1] 27 (0, 0)) (by (with_reducible repeat (first | refine blk_drewN ?_ _ | refine blk_drew ?_ | refine blk_alloc ?_ _)); exact BK757.out) hb); have n1_ := Aside0.mk (below_step (by repeat (first | (with_reducible first | exact HB.out | apply below_alloc | apply pw_below_drewN | apply below_drew1 | refine below_set ?_ GE757.out) | exact HB.out)) hb); have n2_ := Aside0.mk (hbox); have n3_ := Aside0.mk ((by rw [hg]; exact (below_size (by repeat (first | (with_reducible first | exact HB.out | apply below_alloc | apply pw_below_drewN | apply below_drew1 | refine below_set ?_ GE757.out) | exact HB.out))) : w.heap.size ≤ gb758)); have n4_ := Aside0.mk ((by rw [hg]; exact (below_size (by repeat (first | (with_reducible first | exact HB.out | apply below_alloc | apply pw_below_drewN | apply below_drew1 | refine below_set ?_ GE757.out) | exact HB.out))) : w.heap.size ≤ gb758)); have n5_ := Aside0.mk ((by rw [hg]; exact Nat.ne_of_lt (blk_lt (g := gb757) (o := .cells #[.slice A0_0 l0_0.length c0_0, .slice A0_1 l0_1.length c0_1] 27 (0, 0)) (by (with_reducible repeat (first | refine blk_drewN ?_ _ | refine blk_drew ?_ | refine blk_alloc ?_ _)); exact BK757.out)) : gb757 ≠ gb758)); have n6_ := Aside0.mk ((by rw [hg]; exact Nat.ne_of_gt (blk_lt (g := gb757) (o := .cells #[.slice A0_0 l0_0.length c0_0, .slice A0_1 l0_1.length c0_1] 27 (0, 0)) (by (with_reducible repeat (first | refine blk_drewN ?_ _ | refine blk_drew ?_ | refine blk_alloc ?_ _)); exact BK757.out)) : gb758 ≠ gb757)); clear BK757; clear HB; have BK757 := n0_; have HB := n1_; have BK758 := n2_; have GW758 := n3_; have GE758 := n4_; have NB757_758 := n5_; have NB758_757 := n6_; clear n0_ n1_ n2_ n3_ n4_ n5_ n6_; clear hb hbox hg; have hnb21 := NB757_758.out; have hnc21 := NB758_757.out; have hcz22_0 : w20.cell? ⟨gb757, 0, none⟩ = some (.slice A0_0 l0_0.length c0_0) := (blk_cell BK757.out 0).trans rfl; have hcz22_1 : w20.cell? ⟨gb757, 1, none⟩ = some (.slice A0_1 l0_1.length c0_1) := (blk_cell BK757.out 1).trans rfl; have hfz22_0 := blk_frozen BK757.out 0; have hfz22_1 := blk_frozen BK757.out 1) | ((with_reducible refine gate_callee (f := 50) rfl ?_); refine goesL_ (some 4) rfl rfl Try.func50 (by kernel_rfl) rfl #[.agg #[.slice A0_0 l0_0.length c0_0, .slice A0_1 l0_1.length c0_1]] rfl (by (try simp only [List.map_toArray, List.map_cons, List.map_nil]); first | done | rfl | (simp only [List.length_drop, List.length_take]; rfl)) ?_; (with_reducible refine (selfstabref26_Fit.calls k _ _ l0_0 _ _ l0_1 false _ ?side1 ?side2 ?side3 ?side4 A2.out).mono ?_); (case side1 => repeat (first | exact (Kd.C_below HR0_0.out HB.out) | (with_reducible refine Kd.C_alloc ?_ _) | (with_reducible refine Kd.C_drewN ?_ _) | (with_reducible refine Kd.C_drew ?_))); (case side2 => exact HC0_0.out); (case side3 => repeat (first | exact (Kd.C_below HR0_1.out HB.out) | (with_reducible refine Kd.C_alloc ?_ _) | (with_reducible refine Kd.C_drewN ?_ _) | (with_reducible refine Kd.C_drew ?_))); (case side4 => exact HC0_1.out); rintro e w23 ⟨rfl, hb⟩; refine ⟨_, rfl, ?_⟩; have n0_ := Aside0.mk (blk_below (g := gb757) (o := .cells #[.slice A0_0 l0_0.length c0_0, .slice A0_1 l0_1.length c0_1] 27 (0, 0)) (by (with_reducible repeat (first | refine blk_drewN ?_ _ | refine blk_drew ?_ | refine blk_alloc ?_ _)); exact BK757.out) hb); have n1_ := Aside0.mk (blk_below (g := gb758) (o := .cells #[.int .i64 0, .bool false, .bool false, .int .i64 0, .int .i64 0] 44 (0, 0)) (by (with_reducible repeat (first | refine blk_drewN ?_ _ | refine blk_drew ?_ | refine blk_alloc ?_ _)); exact BK758.out) hb); have n2_ := Aside0.mk (below_step (by repeat (first | (with_reducible first | exact HB.out | apply below_alloc | apply pw_below_drewN | apply below_drew1 | refine below_set ?_ GE757.out | refine below_set ?_ GE758.out) | exact HB.out)) hb); clear BK757; clear BK758; clear HB; have BK757 := n0_; have BK758 := n1_; have HB := n2_; clear n0_ n1_ n2_; (try clear hb); (try clear hb2); (try clear hk); (try clear hi); have hcz24_0 : w23.cell? ⟨gb758, 0, none⟩ = some (.int .i64 0) := (blk_cell BK758.out 0).trans rfl; have hcz24_1 : w23.cell? ⟨gb758, 1, none⟩ = some (.bool false) := (blk_cell BK758.out 1).trans rfl; have hcz24_2 : w23.cell? ⟨gb758, 2, none⟩ = some (.bool false) := (blk_cell BK758.out 2).trans rfl; have hcz24_3 : w23.cell? ⟨gb758, 3, none⟩ = some (.int .i64 0) := (blk_cell BK758.out 3).trans rfl; have hcz24_4 : w23.cell? ⟨gb758, 4, none⟩ = some (.int .i64 0) := (blk_cell BK758.out 4).trans rfl; have hfz24_0 := blk_frozen BK758.out 0; have hfz24_1 := blk_frozen BK758.out 1; have hfz24_2 := blk_frozen BK758.out 2; have hfz24_3 := blk_frozen BK758.out 3; have hfz24_4 := blk_frozen BK758.out 4))
  refine bodyPost_ret (results_cell_row rfl _ _ gb758 44 #[.int .i64 0, .bool false, .bool false, .int .i64 0, .int .i64 0] (0, 0) _ rfl (by (with_reducible repeat (first | refine blk_drewN ?_ _ | refine blk_drew ?_ | refine blk_alloc ?_ _)); refine blk_put (cs := #[.int .i64 0, .bool false, .bool false, .int .i64 0, .int .i64 0]) ?_ 4 _ rfl; (with_reducible repeat (first | refine blk_drewN ?_ _ | refine blk_drew ?_ | refine blk_alloc ?_ _)); refine blk_put (cs := #[.int .i64 0, .bool false, .bool false, .int .i64 0, .int .i64 0]) ?_ 3 _ rfl; (with_reducible repeat (first | refine blk_drewN ?_ _ | refine blk_drew ?_ | refine blk_alloc ?_ _)); refine blk_put (cs := #[.int .i64 0, .bool false, .bool false, .int .i64 0, .int .i64 0]) ?_ 2 _ rfl; (with_reducible repeat (first | refine blk_drewN ?_ _ | refine blk_drew ?_ | refine blk_alloc ?_ _)); refine blk_put (cs := #[.int .i64 0, .bool false, .bool false, .int .i64 0, .int .i64 0]) ?_ 1 _ rfl; (with_reducible repeat (first | refine blk_drewN ?_ _ | refine blk_drew ?_ | refine blk_alloc ?_ _)); refine blk_put (cs := #[.int .i64 0, .bool false, .bool false, .int .i64 0, .int .i64 0]) ?_ 0 _ rfl; (with_reducible repeat (first | refine blk_drewN ?_ _ | refine blk_drew ?_ | refine blk_alloc ?_ _)); exact BK758.out) Try.underlying44 rfl (by kernel_rfl)) rfl ?_
  exact ⟨by first | rfl | (simp [errW_none, errW_some] <;> rfl) | (simp [*, errW_none, errW_some] <;> rfl), by repeat (first | (with_reducible first | exact HB.out | apply below_alloc | apply pw_below_drewN | apply below_drew1 | refine below_set ?_ GE757.out | refine below_set ?_ GE758.out) | exact HB.out)⟩
end Go.Proofs.YthapikakneikbaaG
namespace Go.Proofs.YthapikakneikbaaG
open Go.RowKit Go.Proofs.YthapikakneikbaaW.PrintWords Go.Proofs.YthapikakneikbaaW.PrintLast Go.Proofs.YthapikakneikbaaW.PrintMore
attribute [local go_sem] max2_int min2_int max_two min_two max_three min_three max_four min_four   -- for this text's walks alone
set_option linter.unusedVariables false
set_option linter.unusedSimpArgs false
def selfstabref26_Leader.f (k : Nat) (l0_0 : List Int) (l0_1 : List (List (S60))) (l1 : List (List Int)) : Option (Int) := (selfstabref26_Legit.f k l0_0 l0_1 l1).bind fun t763 => (if t763 = true then ((selfstabref26_Least.f k l0_0 l0_1).bind fun t764 => (some t764)) else (some (-1)))
theorem selfstabref26_Leader.mono : ∀ a0 a1 a2 k, LeO (selfstabref26_Leader.f k a0 a1 a2) (selfstabref26_Leader.f (k + 1) a0 a1 a2) := by
 intro a0 a1 a2 k
 unfold selfstabref26_Leader.f
 repeat' first
   | (with_reducible exact selfstabref26_Least.mono _ _ _)
   | (with_reducible exact selfstabref26_Legit.mono _ _ _ _)
   | (with_reducible exact LeO.refl _)
   | (with_reducible exact LeO.none _)
   | (with_reducible refine LeO.ite ?_ ?_)
   | (with_reducible refine LeO.bind ?_ (fun _ => ?_))
   | exact selfstabref26_Least.mono _ _ _
   | exact selfstabref26_Legit.mono _ _ _ _
   | exact LeO.none _
   | refine LeO.ite ?_ ?_
   | refine LeO.bind ?_ (fun _ => ?_)
set_option maxHeartbeats 8000000 in
set_option maxRecDepth 100000 in
theorem selfstabref26_Leader.calls (k : Nat) (A0_0 : Option Addr) (c0_0 : Nat) (l0_0 : List Int) (A0_1 : Option Addr) (c0_1 : Nat) (l0_1 : List (List (S60))) (A1 : Option Addr) (c1 : Nat) (l1 : List (List Int)) (r : Int) (w : World) (hr0_0 : Kd.C (Kd.int .i64) w A0_0 l0_0.length l0_0) (hc0_0 : l0_0.length ≤ c0_0) (hr0_1 : Kd.C (Kd.slice 60 k60) w A0_1 l0_1.length l0_1) (hc0_1 : l0_1.length ≤ c0_1) (hr1 : Kd.C (Kd.slice 3 (Kd.int .i64)) w A1 l1.length l1) (hc1 : l1.length ≤ c1) (h : selfstabref26_Leader.f k l0_0 l0_1 l1 = some r) :
  Calls Try.prog 56 #[.agg #[.slice A0_0 l0_0.length c0_0, .slice A0_1 l0_1.length c0_1], .slice A1 l1.length c1] w fun e w' => e = .returned (.int .i64 r) ∧ Below w.heap.size w w' := by
 have hu27 := Try.underlying27
 have HR0_0 := Aside0.mk hr0_0
 have HC0_0 := Aside0.mk hc0_0
 clear hr0_0 hc0_0
 have HR0_1 := Aside0.mk hr0_1
 have HC0_1 := Aside0.mk hc0_1
 clear hr0_1 hc0_1
 have HR1 := Aside0.mk hr1
 have HC1 := Aside0.mk hc1
 clear hr1 hc1
 have HB := Aside0.mk (Below.refl w.heap.size w)
 have H : ((selfstabref26_Legit.f k l0_0 l0_1 l1).bind fun t763 => (if t763 = true then ((selfstabref26_Least.f k l0_0 l0_1).bind fun t764 => (some t764)) else (some (-1)))) = some r := h
 clear h
 replace H := Option.bind_eq_some_iff.mp H
 obtain ⟨t763, A30, H⟩ := H
 replace H : (if t763 = true then ((selfstabref26_Least.f k l0_0 l0_1).bind fun t764 => (some t764)) else (some (-1))) = some r := H
 have A3 := Aside0.mk A30
 clear A30
 by_cases c4 : t763 = true
 ·
  subst c4
  have H1 : ((selfstabref26_Least.f k l0_0 l0_1).bind fun t764 => (some t764)) = some r := by rw [if_pos rfl] at H; exact H
  clear H
  have H := H1
  clear H1
  replace H := Option.bind_eq_some_iff.mp H
  obtain ⟨t764, A50, H⟩ := H
  replace H : (some t764) = some r := H
  have A5 := Aside0.mk A50
  clear A50
  obtain rfl := Option.some.inj H
  go_enter Try.func56, Try.ntmps56
  go_wp2_with (first | ((with_reducible refine gate_dst (N := 2) rfl ?_); refine box_event ?hg (N := 2) ?hd (cs := #[.slice A0_0 l0_0.length c0_0, .slice A0_1 l0_1.length c0_1]) (t := 27) ?hr ?_; (case hd => rfl); (case hg => rfl); (case hr => first | (go_simp; done) | (go_simp; rfl)); intro gb762 hg w6 hbox hb; have n0_ := Aside0.mk (below_step (by repeat (first | (with_reducible first | exact HB.out | apply below_alloc | apply pw_below_drewN | apply below_drew1) | exact HB.out)) hb); have n1_ := Aside0.mk (hbox); have n2_ := Aside0.mk ((by rw [hg]; exact (below_size (by repeat (first | (with_reducible first | exact HB.out | apply below_alloc | apply pw_below_drewN | apply below_drew1) | exact HB.out))) : w.heap.size ≤ gb762)); have n3_ := Aside0.mk ((by rw [hg]; exact (below_size (by repeat (first | (with_reducible first | exact HB.out | apply below_alloc | apply pw_below_drewN | apply below_drew1) | exact HB.out))) : w.heap.size ≤ gb762)); clear HB; have HB := n0_; have BK762 := n1_; have GW762 := n2_; have GE762 := n3_; clear n0_ n1_ n2_ n3_; clear hb hbox hg; have hcz7_0 : w6.cell? ⟨gb762, 0, none⟩ = some (.slice A0_0 l0_0.length c0_0) := (blk_cell BK762.out 0).trans rfl; have hcz7_1 : w6.cell? ⟨gb762, 1, none⟩ = some (.slice A0_1 l0_1.length c0_1) := (blk_cell BK762.out 1).trans rfl; have hfz7_0 := blk_frozen BK762.out 0; have hfz7_1 := blk_frozen BK762.out 1) | ((with_reducible refine gate_callee (f := 52) rfl ?_); refine goesL_ (some 7) rfl rfl Try.func52 (by kernel_rfl) rfl #[.agg #[.slice A0_0 l0_0.length c0_0, .slice A0_1 l0_1.length c0_1], .slice A1 l1.length c1] rfl (by (try simp only [List.map_toArray, List.map_cons, List.map_nil]); first | done | rfl | (simp only [List.length_drop, List.length_take]; rfl)) ?_; (with_reducible refine (selfstabref26_Legit.calls k _ _ l0_0 _ _ l0_1 _ _ l1 true _ ?side1 ?side2 ?side3 ?side4 ?side5 ?side6 A3.out).mono ?_); (case side1 => repeat (first | exact (Kd.C_below HR0_0.out HB.out) | (with_reducible refine Kd.C_alloc ?_ _) | (with_reducible refine Kd.C_drewN ?_ _) | (with_reducible refine Kd.C_drew ?_))); (case side2 => exact HC0_0.out); (case side3 => repeat (first | exact (Kd.C_below HR0_1.out HB.out) | (with_reducible refine Kd.C_alloc ?_ _) | (with_reducible refine Kd.C_drewN ?_ _) | (with_reducible refine Kd.C_drew ?_))); (case side4 => exact HC0_1.out); (case side5 => repeat (first | exact (Kd.C_below HR1.out HB.out) | (with_reducible refine Kd.C_alloc ?_ _) | (with_reducible refine Kd.C_drewN ?_ _) | (with_reducible refine Kd.C_drew ?_))); (case side6 => exact HC1.out); rintro e w8 ⟨rfl, hb⟩; refine ⟨_, rfl, ?_⟩; have n0_ := Aside0.mk (blk_below (g := gb762) (o := .cells #[.slice A0_0 l0_0.length c0_0, .slice A0_1 l0_1.length c0_1] 27 (0, 0)) (by (with_reducible repeat (first | refine blk_drewN ?_ _ | refine blk_drew ?_ | refine blk_alloc ?_ _)); exact BK762.out) hb); have n1_ := Aside0.mk (below_step (by repeat (first | (with_reducible first | exact HB.out | apply below_alloc | apply pw_below_drewN | apply below_drew1 | refine below_set ?_ GE762.out) | exact HB.out)) hb); clear BK762; clear HB; have BK762 := n0_; have HB := n1_; clear n0_ n1_; (try clear hb); (try clear hb2); (try clear hk); (try clear hi); have hcz9_0 : w8.cell? ⟨gb762, 0, none⟩ = some (.slice A0_0 l0_0.length c0_0) := (blk_cell BK762.out 0).trans rfl; have hcz9_1 : w8.cell? ⟨gb762, 1, none⟩ = some (.slice A0_1 l0_1.length c0_1) := (blk_cell BK762.out 1).trans rfl; have hfz9_0 := blk_frozen BK762.out 0; have hfz9_1 := blk_frozen BK762.out 1) | ((with_reducible refine gate_callee (f := 103) rfl ?_); refine goesL_ (some 10) rfl rfl Try.func103 (by kernel_rfl) rfl #[.agg #[.slice A0_0 l0_0.length c0_0, .slice A0_1 l0_1.length c0_1]] rfl (by (try simp only [List.map_toArray, List.map_cons, List.map_nil]); first | done | rfl | (simp only [List.length_drop, List.length_take]; rfl)) ?_; (with_reducible refine (selfstabref26_Least.calls k _ _ l0_0 _ _ l0_1 t764 _ ?side1 ?side2 ?side3 ?side4 A5.out).mono ?_); (case side1 => repeat (first | exact (Kd.C_below HR0_0.out HB.out) | (with_reducible refine Kd.C_alloc ?_ _) | (with_reducible refine Kd.C_drewN ?_ _) | (with_reducible refine Kd.C_drew ?_))); (case side2 => exact HC0_0.out); (case side3 => repeat (first | exact (Kd.C_below HR0_1.out HB.out) | (with_reducible refine Kd.C_alloc ?_ _) | (with_reducible refine Kd.C_drewN ?_ _) | (with_reducible refine Kd.C_drew ?_))); (case side4 => exact HC0_1.out); rintro e w10 ⟨rfl, hb⟩; refine ⟨_, rfl, ?_⟩; have n0_ := Aside0.mk (blk_below (g := gb762) (o := .cells #[.slice A0_0 l0_0.length c0_0, .slice A0_1 l0_1.length c0_1] 27 (0, 0)) (by (with_reducible repeat (first | refine blk_drewN ?_ _ | refine blk_drew ?_ | refine blk_alloc ?_ _)); exact BK762.out) hb); have n1_ := Aside0.mk (below_step (by repeat (first | (with_reducible first | exact HB.out | apply below_alloc | apply pw_below_drewN | apply below_drew1 | refine below_set ?_ GE762.out) | exact HB.out)) hb); clear BK762; clear HB; have BK762 := n0_; have HB := n1_; clear n0_ n1_; (try clear hb); (try clear hb2); (try clear hk); (try clear hi)))
  go_ret
  exact ⟨by first | rfl | (simp [errW_none, errW_some] <;> rfl) | (simp [*, errW_none, errW_some] <;> rfl), by repeat (first | (with_reducible first | exact HB.out | apply below_alloc | apply pw_below_drewN | apply below_drew1 | refine below_set ?_ GE762.out) | exact HB.out)⟩
 ·
  replace c4 := Bool.eq_false_iff.mpr c4
  subst c4
  have H1 : (some (-1)) = some r := by rw [if_neg (show ¬ (false = true) by decide)] at H; exact H
  clear H
  have H := H1
  clear H1
  obtain rfl := Option.some.inj H
  go_enter Try.func56, Try.ntmps56
  go_wp2_with (first | ((with_reducible refine gate_dst (N := 2) rfl ?_); refine box_event ?hg (N := 2) ?hd (cs := #[.slice A0_0 l0_0.length c0_0, .slice A0_1 l0_1.length c0_1]) (t := 27) ?hr ?_; (case hd => rfl); (case hg => rfl); (case hr => first | (go_simp; done) | (go_simp; rfl)); intro gb762 hg w11 hbox hb; have n0_ := Aside0.mk (below_step (by repeat (first | (with_reducible first | exact HB.out | apply below_alloc | apply pw_below_drewN | apply below_drew1) | exact HB.out)) hb); have n1_ := Aside0.mk (hbox); have n2_ := Aside0.mk ((by rw [hg]; exact (below_size (by repeat (first | (with_reducible first | exact HB.out | apply below_alloc | apply pw_below_drewN | apply below_drew1) | exact HB.out))) : w.heap.size ≤ gb762)); have n3_ := Aside0.mk ((by rw [hg]; exact (below_size (by repeat (first | (with_reducible first | exact HB.out | apply below_alloc | apply pw_below_drewN | apply below_drew1) | exact HB.out))) : w.heap.size ≤ gb762)); clear HB; have HB := n0_; have BK762 := n1_; have GW762 := n2_; have GE762 := n3_; clear n0_ n1_ n2_ n3_; clear hb hbox hg; have hcz12_0 : w11.cell? ⟨gb762, 0, none⟩ = some (.slice A0_0 l0_0.length c0_0) := (blk_cell BK762.out 0).trans rfl; have hcz12_1 : w11.cell? ⟨gb762, 1, none⟩ = some (.slice A0_1 l0_1.length c0_1) := (blk_cell BK762.out 1).trans rfl; have hfz12_0 := blk_frozen BK762.out 0; have hfz12_1 := blk_frozen BK762.out 1) | ((with_reducible refine gate_callee (f := 52) rfl ?_); refine goesL_ (some 7) rfl rfl Try.func52 (by kernel_rfl) rfl #[.agg #[.slice A0_0 l0_0.length c0_0, .slice A0_1 l0_1.length c0_1], .slice A1 l1.length c1] rfl (by (try simp only [List.map_toArray, List.map_cons, List.map_nil]); first | done | rfl | (simp only [List.length_drop, List.length_take]; rfl)) ?_; (with_reducible refine (selfstabref26_Legit.calls k _ _ l0_0 _ _ l0_1 _ _ l1 false _ ?side1 ?side2 ?side3 ?side4 ?side5 ?side6 A3.out).mono ?_); (case side1 => repeat (first | exact (Kd.C_below HR0_0.out HB.out) | (with_reducible refine Kd.C_alloc ?_ _) | (with_reducible refine Kd.C_drewN ?_ _) | (with_reducible refine Kd.C_drew ?_))); (case side2 => exact HC0_0.out); (case side3 => repeat (first | exact (Kd.C_below HR0_1.out HB.out) | (with_reducible refine Kd.C_alloc ?_ _) | (with_reducible refine Kd.C_drewN ?_ _) | (with_reducible refine Kd.C_drew ?_))); (case side4 => exact HC0_1.out); (case side5 => repeat (first | exact (Kd.C_below HR1.out HB.out) | (with_reducible refine Kd.C_alloc ?_ _) | (with_reducible refine Kd.C_drewN ?_ _) | (with_reducible refine Kd.C_drew ?_))); (case side6 => exact HC1.out); rintro e w13 ⟨rfl, hb⟩; refine ⟨_, rfl, ?_⟩; have n0_ := Aside0.mk (blk_below (g := gb762) (o := .cells #[.slice A0_0 l0_0.length c0_0, .slice A0_1 l0_1.length c0_1] 27 (0, 0)) (by (with_reducible repeat (first | refine blk_drewN ?_ _ | refine blk_drew ?_ | refine blk_alloc ?_ _)); exact BK762.out) hb); have n1_ := Aside0.mk (below_step (by repeat (first | (with_reducible first | exact HB.out | apply below_alloc | apply pw_below_drewN | apply below_drew1 | refine below_set ?_ GE762.out) | exact HB.out)) hb); clear BK762; clear HB; have BK762 := n0_; have HB := n1_; clear n0_ n1_; (try clear hb); (try clear hb2); (try clear hk); (try clear hi)))
  go_ret
  exact ⟨by first | rfl | (simp [errW_none, errW_some] <;> rfl) | (simp [*, errW_none, errW_some] <;> rfl), by repeat (first | (with_reducible first | exact HB.out | apply below_alloc | apply pw_below_drewN | apply below_drew1 | refine below_set ?_ GE762.out) | exact HB.out)⟩
end Go.Proofs.YthapikakneikbaaG
namespace Go.Proofs.YthapikakneikbaaG
open Go.RowKit Go.Proofs.YthapikakneikbaaW.PrintWords Go.Proofs.YthapikakneikbaaW.PrintLast Go.Proofs.YthapikakneikbaaW.PrintMore
attribute [local go_sem] max2_int min2_int max_two min_two max_three min_three max_four min_four   -- for this text's walks alone
set_option linter.unusedVariables false
set_option linter.unusedSimpArgs false
attribute [local go_sem high] eqA44
def selfstablaw26_LeaderJudges.f (k : Nat) (l0_0 : List Int) (l0_1 : List (List (S60))) (l1 : List (List Int)) : Option (Bool) := (selfstablaw26_large.f l0_0 l0_1 l1).bind fun t766 => (if t766 = true then ((selfstablaw26_known.f k).bind fun t767 => (some t767)) else ((selfstablaw26_known.f k).bind fun t768 => (if t768 = true then ((leader_Fit.f k l0_0 l0_1).bind fun t769 => ((selfstabref26_Fit.f k l0_0 l0_1).bind fun t770 => (if (t769 == t770) = true then ((leader_Legit.f k l0_0 l0_1 l1).bind fun t771 => ((selfstabref26_Legit.f k l0_0 l0_1 l1).bind fun t772 => (if (t771 == t772) = true then ((leader_Claim.f k l0_0 l0_1).bind fun bt773 => ((selfstabref26_Claim.f k l0_0 l0_1).bind fun bt778 => (if (bt773.1 == bt778.1 && (bt773.2.1 == bt778.2.1 && (bt773.2.2.1 == bt778.2.2.1 && (bt773.2.2.2.1 == bt778.2.2.2.1 && (bt773.2.2.2.2 == bt778.2.2.2.2))))) = true then ((leader_Leader.f k l0_0 l0_1 l1).bind fun t783 => ((selfstabref26_Leader.f k l0_0 l0_1 l1).bind fun t784 => (some (t783 == t784)))) else (none)))) else (none)))) else (none)))) else (none))))
theorem selfstablaw26_LeaderJudges.mono : ∀ a0 a1 a2 k, LeO (selfstablaw26_LeaderJudges.f k a0 a1 a2) (selfstablaw26_LeaderJudges.f (k + 1) a0 a1 a2) := by
 intro a0 a1 a2 k
 unfold selfstablaw26_LeaderJudges.f
 repeat' first
   | (with_reducible exact leader_Claim.mono _ _ _)
   | (with_reducible exact leader_Fit.mono _ _ _)
   | (with_reducible exact leader_Leader.mono _ _ _ _)
   | (with_reducible exact leader_Legit.mono _ _ _ _)
   | (with_reducible exact selfstablaw26_known.mono _)
   | (with_reducible exact selfstabref26_Claim.mono _ _ _)
   | (with_reducible exact selfstabref26_Fit.mono _ _ _)
   | (with_reducible exact selfstabref26_Leader.mono _ _ _ _)
   | (with_reducible exact selfstabref26_Legit.mono _ _ _ _)
   | (with_reducible exact LeO.refl _)
   | (with_reducible exact LeO.none _)
   | (with_reducible refine LeO.ite ?_ ?_)
   | (with_reducible refine LeO.bind ?_ (fun _ => ?_))
   | exact leader_Claim.mono _ _ _
   | exact leader_Fit.mono _ _ _
   | exact leader_Leader.mono _ _ _ _
   | exact leader_Legit.mono _ _ _ _
   | exact selfstablaw26_known.mono _
   | exact selfstabref26_Claim.mono _ _ _
   | exact selfstabref26_Fit.mono _ _ _
   | exact selfstabref26_Leader.mono _ _ _ _
   | exact selfstabref26_Legit.mono _ _ _ _
   | exact LeO.none _
   | refine LeO.ite ?_ ?_
   | refine LeO.bind ?_ (fun _ => ?_)
def selfstablaw26_LeaderJudges.T3 : Bool × List (List Nat × List Nat) := (true, [([], []), ([0, 0], [0]), ([1], [1]), ([2, 1, 1], [1, 2]), ([1], [1]), ([4, 3, 1], [1, 4]), ([3, 5, 1], [1, 3, 5]), ([1, 6], [1, 6]), ([7, 5], [7]), ([8], [8]), ([8], [8]), ([9, 10, 8, 8], [8, 9, 10]), ([8], [8]), ([8], [8]), ([12, 13, 11, 8], [8, 12, 13]), ([11, 14, 8], [8, 11, 14]), ([8, 15], [8, 15]), ([16, 14], [16]), ([17], [17]), ([18, 17, 17], [17, 18]), ([17], [17]), ([20, 19, 17], [17, 20]), ([19, 21, 17], [17, 19, 21]), ([17, 22], [17, 22]), ([23, 21], [23]), ([24], [24]), ([24], [24]), ([25, 26, 24, 24], [24, 25, 26]), ([24], [24]), ([24], [24]), ([28, 29, 27, 24], [24, 28, 29]), ([27, 30, 24], [24, 27, 30]), ([24, 31], [24, 31]), ([32, 30, 0, 1, 2, 3, 4, 5, 6, 7, 8, 9, 10, 11, 12, 13, 14, 15, 16, 17, 18, 19, 20, 21, 22, 23, 24, 25, 26, 27, 28, 29, 30, 31, 32], [32])])
def selfstablaw26_LeaderJudges.B3 : List Nat := [0, 1, 3, 7, 3, 31, 63, 127, 255, 511, 511, 2047, 511, 511, 16383, 32767, 65535, 131071, 262143, 524287, 262143, 2097151, 4194303, 8388607, 16777215, 33554431, 33554431, 134217727, 33554431, 33554431, 1073741823, 2147483647, 4294967295, 8589934591]
theorem selfstablaw26_LeaderJudges.tab3 : rtab .any (opsOf Try.f7 3) = selfstablaw26_LeaderJudges.T3 := by kernel_rfl
theorem selfstablaw26_LeaderJudges.bits3 : waitsOk selfstablaw26_LeaderJudges.T3.2 selfstablaw26_LeaderJudges.B3 = true := by kernel_rfl
set_option maxHeartbeats 8000000 in
set_option maxRecDepth 100000 in
theorem selfstablaw26_LeaderJudges.calls (k : Nat) (A0_0 : Option Addr) (c0_0 : Nat) (l0_0 : List Int) (A0_1 : Option Addr) (c0_1 : Nat) (l0_1 : List (List (S60))) (A1 : Option Addr) (c1 : Nat) (l1 : List (List Int)) (r : Bool) (w : World) (hr0_0 : Kd.C (Kd.int .i64) w A0_0 l0_0.length l0_0) (hc0_0 : l0_0.length ≤ c0_0) (hr0_1 : Kd.C (Kd.slice 60 k60) w A0_1 l0_1.length l0_1) (hc0_1 : l0_1.length ≤ c0_1) (hr1 : Kd.C (Kd.slice 3 (Kd.int .i64)) w A1 l1.length l1) (hc1 : l1.length ≤ c1) (h : selfstablaw26_LeaderJudges.f k l0_0 l0_1 l1 = some r) :
  Calls Try.prog 7 #[.agg #[.slice A0_0 l0_0.length c0_0, .slice A0_1 l0_1.length c0_1], .slice A1 l1.length c1] w fun e w' => e = .returned (.bool r) ∧ Below w.heap.size w w' := by
 have hu27 := Try.underlying27
 have HR0_0 := Aside0.mk hr0_0
 have HC0_0 := Aside0.mk hc0_0
 clear hr0_0 hc0_0
 have HR0_1 := Aside0.mk hr0_1
 have HC0_1 := Aside0.mk hc0_1
 clear hr0_1 hc0_1
 have HR1 := Aside0.mk hr1
 have HC1 := Aside0.mk hc1
 clear hr1 hc1
 have HB := Aside0.mk (Below.refl w.heap.size w)
 have H : ((selfstablaw26_large.f l0_0 l0_1 l1).bind fun t766 => (if t766 = true then ((selfstablaw26_known.f k).bind fun t767 => (some t767)) else ((selfstablaw26_known.f k).bind fun t768 => (if t768 = true then ((leader_Fit.f k l0_0 l0_1).bind fun t769 => ((selfstabref26_Fit.f k l0_0 l0_1).bind fun t770 => (if (t769 == t770) = true then ((leader_Legit.f k l0_0 l0_1 l1).bind fun t771 => ((selfstabref26_Legit.f k l0_0 l0_1 l1).bind fun t772 => (if (t771 == t772) = true then ((leader_Claim.f k l0_0 l0_1).bind fun bt773 => ((selfstabref26_Claim.f k l0_0 l0_1).bind fun bt778 => (if (bt773.1 == bt778.1 && (bt773.2.1 == bt778.2.1 && (bt773.2.2.1 == bt778.2.2.1 && (bt773.2.2.2.1 == bt778.2.2.2.1 && (bt773.2.2.2.2 == bt778.2.2.2.2))))) = true then ((leader_Leader.f k l0_0 l0_1 l1).bind fun t783 => ((selfstabref26_Leader.f k l0_0 l0_1 l1).bind fun t784 => (some (t783 == t784)))) else (none)))) else (none)))) else (none)))) else (none))))) = some r := h
 clear h
 replace H := Option.bind_eq_some_iff.mp H
 obtain ⟨t766, A30, H⟩ := H
 replace H : (if t766 = true then ((selfstablaw26_known.f k).bind fun t767 => (some t767)) else ((selfstablaw26_known.f k).bind fun t768 => (if t768 = true then ((leader_Fit.f k l0_0 l0_1).bind fun t769 => ((selfstabref26_Fit.f k l0_0 l0_1).bind fun t770 => (if (t769 == t770) = true then ((leader_Legit.f k l0_0 l0_1 l1).bind fun t771 => ((selfstabref26_Legit.f k l0_0 l0_1 l1).bind fun t772 => (if (t771 == t772) = true then ((leader_Claim.f k l0_0 l0_1).bind fun bt773 => ((selfstabref26_Claim.f k l0_0 l0_1).bind fun bt778 => (if (bt773.1 == bt778.1 && (bt773.2.1 == bt778.2.1 && (bt773.2.2.1 == bt778.2.2.1 && (bt773.2.2.2.1 == bt778.2.2.2.1 && (bt773.2.2.2.2 == bt778.2.2.2.2))))) = true then ((leader_Leader.f k l0_0 l0_1 l1).bind fun t783 => ((selfstabref26_Leader.f k l0_0 l0_1 l1).bind fun t784 => (some (t783 == t784)))) else (none)))) else (none)))) else (none)))) else (none)))) = some r := H
 have A3 := Aside0.mk A30
 clear A30
 by_cases c4 : t766 = true
 ·
  subst c4
  have H1 : ((selfstablaw26_known.f k).bind fun t767 => (some t767)) = some r := by rw [if_pos rfl] at H; exact H
  clear H
  have H := H1
  clear H1
  replace H := Option.bind_eq_some_iff.mp H
  obtain ⟨t767, A50, H⟩ := H
  replace H : (some t767) = some r := H
  have A5 := Aside0.mk A50
  clear A50
  obtain rfl := Option.some.inj H
  go_enter Try.func7, Try.ntmps7
  go_wp2_with (first | ((with_reducible refine gate_dst (N := 2) rfl ?_); refine box_event ?hg (N := 2) ?hd (cs := #[.slice A0_0 l0_0.length c0_0, .slice A0_1 l0_1.length c0_1]) (t := 27) ?hr ?_; (case hd => rfl); (case hg => rfl); (case hr => first | (go_simp; done) | (go_simp; rfl)); intro gb765 hg w6 hbox hb; have n0_ := Aside0.mk (below_step (by repeat (first | (with_reducible first | exact HB.out | apply below_alloc | apply pw_below_drewN | apply below_drew1) | exact HB.out)) hb); have n1_ := Aside0.mk (hbox); have n2_ := Aside0.mk ((by rw [hg]; exact (below_size (by repeat (first | (with_reducible first | exact HB.out | apply below_alloc | apply pw_below_drewN | apply below_drew1) | exact HB.out))) : w.heap.size ≤ gb765)); have n3_ := Aside0.mk ((by rw [hg]; exact (below_size (by repeat (first | (with_reducible first | exact HB.out | apply below_alloc | apply pw_below_drewN | apply below_drew1) | exact HB.out))) : w.heap.size ≤ gb765)); clear HB; have HB := n0_; have BK765 := n1_; have GW765 := n2_; have GE765 := n3_; clear n0_ n1_ n2_ n3_; clear hb hbox hg; have hcz7_0 : w6.cell? ⟨gb765, 0, none⟩ = some (.slice A0_0 l0_0.length c0_0) := (blk_cell BK765.out 0).trans rfl; have hcz7_1 : w6.cell? ⟨gb765, 1, none⟩ = some (.slice A0_1 l0_1.length c0_1) := (blk_cell BK765.out 1).trans rfl; have hfz7_0 := blk_frozen BK765.out 0; have hfz7_1 := blk_frozen BK765.out 1) | ((with_reducible refine gate_callee (f := 47) rfl ?_); refine goesL_ (some 7) rfl rfl Try.func47 (by kernel_rfl) rfl #[.agg #[.slice A0_0 l0_0.length c0_0, .slice A0_1 l0_1.length c0_1], .slice A1 l1.length c1] rfl (by (try simp only [List.map_toArray, List.map_cons, List.map_nil]); first | done | rfl | (simp only [List.length_drop, List.length_take]; rfl)) ?_; (with_reducible refine (selfstablaw26_large.calls _ _ l0_0 _ _ l0_1 _ _ l1 true _ ?side1 ?side2 ?side3 ?side4 ?side5 ?side6 A3.out).mono ?_); (case side1 => repeat (first | exact (Kd.C_below HR0_0.out HB.out) | (with_reducible refine Kd.C_alloc ?_ _) | (with_reducible refine Kd.C_drewN ?_ _) | (with_reducible refine Kd.C_drew ?_))); (case side2 => exact HC0_0.out); (case side3 => repeat (first | exact (Kd.C_below HR0_1.out HB.out) | (with_reducible refine Kd.C_alloc ?_ _) | (with_reducible refine Kd.C_drewN ?_ _) | (with_reducible refine Kd.C_drew ?_))); (case side4 => exact HC0_1.out); (case side5 => repeat (first | exact (Kd.C_below HR1.out HB.out) | (with_reducible refine Kd.C_alloc ?_ _) | (with_reducible refine Kd.C_drewN ?_ _) | (with_reducible refine Kd.C_drew ?_))); (case side6 => exact HC1.out); rintro e w8 ⟨rfl, hb⟩; refine ⟨_, rfl, ?_⟩; have n0_ := Aside0.mk (blk_below (g := gb765) (o := .cells #[.slice A0_0 l0_0.length c0_0, .slice A0_1 l0_1.length c0_1] 27 (0, 0)) (by (with_reducible repeat (first | refine blk_drewN ?_ _ | refine blk_drew ?_ | refine blk_alloc ?_ _)); exact BK765.out) hb); have n1_ := Aside0.mk (below_step (by repeat (first | (with_reducible first | exact HB.out | apply below_alloc | apply pw_below_drewN | apply below_drew1 | refine below_set ?_ GE765.out) | exact HB.out)) hb); clear BK765; clear HB; have BK765 := n0_; have HB := n1_; clear n0_ n1_; (try clear hb); (try clear hb2); (try clear hk); (try clear hi)) | ((with_reducible refine gate_callee (f := 48) rfl ?_); refine goesL_ (some 8) rfl rfl Try.func48 (by kernel_rfl) rfl #[] rfl (by (try simp only [List.map_toArray, List.map_cons, List.map_nil]); first | done | rfl | (simp only [List.length_drop, List.length_take]; rfl)) ?_; (with_reducible refine (selfstablaw26_known.calls k  t767 _ A5.out).mono ?_); rintro e w9 ⟨rfl, hb⟩; refine ⟨_, rfl, ?_⟩; have n0_ := Aside0.mk (blk_below (g := gb765) (o := .cells #[.slice A0_0 l0_0.length c0_0, .slice A0_1 l0_1.length c0_1] 27 (0, 0)) (by (with_reducible repeat (first | refine blk_drewN ?_ _ | refine blk_drew ?_ | refine blk_alloc ?_ _)); exact BK765.out) hb); have n1_ := Aside0.mk (below_step (by repeat (first | (with_reducible first | exact HB.out | apply below_alloc | apply pw_below_drewN | apply below_drew1 | refine below_set ?_ GE765.out) | exact HB.out)) hb); clear BK765; clear HB; have BK765 := n0_; have HB := n1_; clear n0_ n1_; (try clear hb); (try clear hb2); (try clear hk); (try clear hi)))
  go_ret
  exact ⟨by first | rfl | (simp [errW_none, errW_some] <;> rfl) | (simp [*, errW_none, errW_some] <;> rfl), by repeat (first | (with_reducible first | exact HB.out | apply below_alloc | apply pw_below_drewN | apply below_drew1 | refine below_set ?_ GE765.out) | exact HB.out)⟩
 ·
  replace c4 := Bool.eq_false_iff.mpr c4
  subst c4
  have H1 : ((selfstablaw26_known.f k).bind fun t768 => (if t768 = true then ((leader_Fit.f k l0_0 l0_1).bind fun t769 => ((selfstabref26_Fit.f k l0_0 l0_1).bind fun t770 => (if (t769 == t770) = true then ((leader_Legit.f k l0_0 l0_1 l1).bind fun t771 => ((selfstabref26_Legit.f k l0_0 l0_1 l1).bind fun t772 => (if (t771 == t772) = true then ((leader_Claim.f k l0_0 l0_1).bind fun bt773 => ((selfstabref26_Claim.f k l0_0 l0_1).bind fun bt778 => (if (bt773.1 == bt778.1 && (bt773.2.1 == bt778.2.1 && (bt773.2.2.1 == bt778.2.2.1 && (bt773.2.2.2.1 == bt778.2.2.2.1 && (bt773.2.2.2.2 == bt778.2.2.2.2))))) = true then ((leader_Leader.f k l0_0 l0_1 l1).bind fun t783 => ((selfstabref26_Leader.f k l0_0 l0_1 l1).bind fun t784 => (some (t783 == t784)))) else (none)))) else (none)))) else (none)))) else (none))) = some r := by rw [if_neg (show ¬ (false = true) by decide)] at H; exact H
  clear H
  have H := H1
  clear H1
  replace H := Option.bind_eq_some_iff.mp H
  obtain ⟨t768, A100, H⟩ := H
  replace H : (if t768 = true then ((leader_Fit.f k l0_0 l0_1).bind fun t769 => ((selfstabref26_Fit.f k l0_0 l0_1).bind fun t770 => (if (t769 == t770) = true then ((leader_Legit.f k l0_0 l0_1 l1).bind fun t771 => ((selfstabref26_Legit.f k l0_0 l0_1 l1).bind fun t772 => (if (t771 == t772) = true then ((leader_Claim.f k l0_0 l0_1).bind fun bt773 => ((selfstabref26_Claim.f k l0_0 l0_1).bind fun bt778 => (if (bt773.1 == bt778.1 && (bt773.2.1 == bt778.2.1 && (bt773.2.2.1 == bt778.2.2.1 && (bt773.2.2.2.1 == bt778.2.2.2.1 && (bt773.2.2.2.2 == bt778.2.2.2.2))))) = true then ((leader_Leader.f k l0_0 l0_1 l1).bind fun t783 => ((selfstabref26_Leader.f k l0_0 l0_1 l1).bind fun t784 => (some (t783 == t784)))) else (none)))) else (none)))) else (none)))) else (none)) = some r := H
  have A10 := Aside0.mk A100
  clear A100
  by_cases c11 : t768 = true
  ·
   subst c11
   have H1 : ((leader_Fit.f k l0_0 l0_1).bind fun t769 => ((selfstabref26_Fit.f k l0_0 l0_1).bind fun t770 => (if (t769 == t770) = true then ((leader_Legit.f k l0_0 l0_1 l1).bind fun t771 => ((selfstabref26_Legit.f k l0_0 l0_1 l1).bind fun t772 => (if (t771 == t772) = true then ((leader_Claim.f k l0_0 l0_1).bind fun bt773 => ((selfstabref26_Claim.f k l0_0 l0_1).bind fun bt778 => (if (bt773.1 == bt778.1 && (bt773.2.1 == bt778.2.1 && (bt773.2.2.1 == bt778.2.2.1 && (bt773.2.2.2.1 == bt778.2.2.2.1 && (bt773.2.2.2.2 == bt778.2.2.2.2))))) = true then ((leader_Leader.f k l0_0 l0_1 l1).bind fun t783 => ((selfstabref26_Leader.f k l0_0 l0_1 l1).bind fun t784 => (some (t783 == t784)))) else (none)))) else (none)))) else (none)))) = some r := by rw [if_pos rfl] at H; exact H
   clear H
   have H := H1
   clear H1
   replace H := Option.bind_eq_some_iff.mp H
   obtain ⟨t769, A120, H⟩ := H
   replace H : ((selfstabref26_Fit.f k l0_0 l0_1).bind fun t770 => (if (t769 == t770) = true then ((leader_Legit.f k l0_0 l0_1 l1).bind fun t771 => ((selfstabref26_Legit.f k l0_0 l0_1 l1).bind fun t772 => (if (t771 == t772) = true then ((leader_Claim.f k l0_0 l0_1).bind fun bt773 => ((selfstabref26_Claim.f k l0_0 l0_1).bind fun bt778 => (if (bt773.1 == bt778.1 && (bt773.2.1 == bt778.2.1 && (bt773.2.2.1 == bt778.2.2.1 && (bt773.2.2.2.1 == bt778.2.2.2.1 && (bt773.2.2.2.2 == bt778.2.2.2.2))))) = true then ((leader_Leader.f k l0_0 l0_1 l1).bind fun t783 => ((selfstabref26_Leader.f k l0_0 l0_1 l1).bind fun t784 => (some (t783 == t784)))) else (none)))) else (none)))) else (none))) = some r := H
   have A12 := Aside0.mk A120
   clear A120
   replace H := Option.bind_eq_some_iff.mp H
   obtain ⟨t770, A130, H⟩ := H
   replace H : (if (t769 == t770) = true then ((leader_Legit.f k l0_0 l0_1 l1).bind fun t771 => ((selfstabref26_Legit.f k l0_0 l0_1 l1).bind fun t772 => (if (t771 == t772) = true then ((leader_Claim.f k l0_0 l0_1).bind fun bt773 => ((selfstabref26_Claim.f k l0_0 l0_1).bind fun bt778 => (if (bt773.1 == bt778.1 && (bt773.2.1 == bt778.2.1 && (bt773.2.2.1 == bt778.2.2.1 && (bt773.2.2.2.1 == bt778.2.2.2.1 && (bt773.2.2.2.2 == bt778.2.2.2.2))))) = true then ((leader_Leader.f k l0_0 l0_1 l1).bind fun t783 => ((selfstabref26_Leader.f k l0_0 l0_1 l1).bind fun t784 => (some (t783 == t784)))) else (none)))) else (none)))) else (none)) = some r := H
   have A13 := Aside0.mk A130
   clear A130
   by_cases c14 : (t769 == t770) = true
   ·
    rw [if_pos c14] at H
    have c14b0 : (t769 == t770) = true := c14
    (try (have c14b1 : decide (t769 = t770) = true := by simpa using c14))
    (try (have c14b2 : (t769 == t770) = true := by simpa using c14))
    clear c14
    replace H := Option.bind_eq_some_iff.mp H
    obtain ⟨t771, A150, H⟩ := H
    replace H : ((selfstabref26_Legit.f k l0_0 l0_1 l1).bind fun t772 => (if (t771 == t772) = true then ((leader_Claim.f k l0_0 l0_1).bind fun bt773 => ((selfstabref26_Claim.f k l0_0 l0_1).bind fun bt778 => (if (bt773.1 == bt778.1 && (bt773.2.1 == bt778.2.1 && (bt773.2.2.1 == bt778.2.2.1 && (bt773.2.2.2.1 == bt778.2.2.2.1 && (bt773.2.2.2.2 == bt778.2.2.2.2))))) = true then ((leader_Leader.f k l0_0 l0_1 l1).bind fun t783 => ((selfstabref26_Leader.f k l0_0 l0_1 l1).bind fun t784 => (some (t783 == t784)))) else (none)))) else (none))) = some r := H
    have A15 := Aside0.mk A150
    clear A150
    replace H := Option.bind_eq_some_iff.mp H
    obtain ⟨t772, A160, H⟩ := H
    replace H : (if (t771 == t772) = true then ((leader_Claim.f k l0_0 l0_1).bind fun bt773 => ((selfstabref26_Claim.f k l0_0 l0_1).bind fun bt778 => (if (bt773.1 == bt778.1 && (bt773.2.1 == bt778.2.1 && (bt773.2.2.1 == bt778.2.2.1 && (bt773.2.2.2.1 == bt778.2.2.2.1 && (bt773.2.2.2.2 == bt778.2.2.2.2))))) = true then ((leader_Leader.f k l0_0 l0_1 l1).bind fun t783 => ((selfstabref26_Leader.f k l0_0 l0_1 l1).bind fun t784 => (some (t783 == t784)))) else (none)))) else (none)) = some r := H
    have A16 := Aside0.mk A160
    clear A160
    by_cases c17 : (t771 == t772) = true
    ·
     rw [if_pos c17] at H
     have c17b0 : (t771 == t772) = true := c17
     (try (have c17b1 : decide (t771 = t772) = true := by simpa using c17))
     (try (have c17b2 : (t771 == t772) = true := by simpa using c17))
     clear c17
     replace H := Option.bind_eq_some_iff.mp H
     obtain ⟨⟨t773, t774, t775, t776, t777⟩, A180, H⟩ := H
     replace H : ((selfstabref26_Claim.f k l0_0 l0_1).bind fun bt778 => (if (t773 == bt778.1 && (t774 == bt778.2.1 && (t775 == bt778.2.2.1 && (t776 == bt778.2.2.2.1 && (t777 == bt778.2.2.2.2))))) = true then ((leader_Leader.f k l0_0 l0_1 l1).bind fun t783 => ((selfstabref26_Leader.f k l0_0 l0_1 l1).bind fun t784 => (some (t783 == t784)))) else (none))) = some r := H
     have A18 := Aside0.mk A180
     clear A180
     replace H := Option.bind_eq_some_iff.mp H
     obtain ⟨⟨t778, t779, t780, t781, t782⟩, A190, H⟩ := H
     replace H : (if (t773 == t778 && (t774 == t779 && (t775 == t780 && (t776 == t781 && (t777 == t782))))) = true then ((leader_Leader.f k l0_0 l0_1 l1).bind fun t783 => ((selfstabref26_Leader.f k l0_0 l0_1 l1).bind fun t784 => (some (t783 == t784)))) else (none)) = some r := H
     have A19 := Aside0.mk A190
     clear A190
     by_cases c20 : (t773 == t778 && (t774 == t779 && (t775 == t780 && (t776 == t781 && (t777 == t782))))) = true
     ·
      rw [if_pos c20] at H
      have c20b0 : (t773 == t778 && (t774 == t779 && (t775 == t780 && (t776 == t781 && (t777 == t782))))) = true := c20
      (try (have c20b1 : decide (t773 = t778 && (t774 == t779 && (t775 == t780 && (t776 == t781 && (t777 == t782))))) = true := by simpa using c20))
      (try (have c20b2 : (t773 == t778 && (t774 == t779 && (t775 == t780 && (t776 == t781 && (t777 == t782))))) = true := by simpa using c20))
      clear c20
      replace H := Option.bind_eq_some_iff.mp H
      obtain ⟨t783, A210, H⟩ := H
      replace H : ((selfstabref26_Leader.f k l0_0 l0_1 l1).bind fun t784 => (some (t783 == t784))) = some r := H
      have A21 := Aside0.mk A210
      clear A210
      replace H := Option.bind_eq_some_iff.mp H
      obtain ⟨t784, A220, H⟩ := H
      replace H : (some (t783 == t784)) = some r := H
      have A22 := Aside0.mk A220
      clear A220
      obtain rfl := Option.some.inj H
      go_enter Try.func7, Try.ntmps7
      try go_wp2_with (first | ((with_reducible refine gate_dst (N := 2) rfl ?_); refine box_event ?hg (N := 2) ?hd (cs := #[.slice A0_0 l0_0.length c0_0, .slice A0_1 l0_1.length c0_1]) (t := 27) ?hr ?_; (case hd => rfl); (case hg => rfl); (case hr => first | (go_simp; done) | (go_simp; rfl)); intro gb765 hg w23 hbox hb; have n0_ := Aside0.mk (below_step (by repeat (first | (with_reducible first | exact HB.out | apply below_alloc | apply pw_below_drewN | apply below_drew1) | exact HB.out)) hb); have n1_ := Aside0.mk (hbox); have n2_ := Aside0.mk ((by rw [hg]; exact (below_size (by repeat (first | (with_reducible first | exact HB.out | apply below_alloc | apply pw_below_drewN | apply below_drew1) | exact HB.out))) : w.heap.size ≤ gb765)); have n3_ := Aside0.mk ((by rw [hg]; exact (below_size (by repeat (first | (with_reducible first | exact HB.out | apply below_alloc | apply pw_below_drewN | apply below_drew1) | exact HB.out))) : w.heap.size ≤ gb765)); clear HB; have HB := n0_; have BK765 := n1_; have GW765 := n2_; have GE765 := n3_; clear n0_ n1_ n2_ n3_; clear hb hbox hg; have hcz24_0 : w23.cell? ⟨gb765, 0, none⟩ = some (.slice A0_0 l0_0.length c0_0) := (blk_cell BK765.out 0).trans rfl; have hcz24_1 : w23.cell? ⟨gb765, 1, none⟩ = some (.slice A0_1 l0_1.length c0_1) := (blk_cell BK765.out 1).trans rfl; have hfz24_0 := blk_frozen BK765.out 0; have hfz24_1 := blk_frozen BK765.out 1) | ((with_reducible refine gate_callee (f := 47) rfl ?_); refine goesL_ (some 7) rfl rfl Try.func47 (by kernel_rfl) rfl #[.agg #[.slice A0_0 l0_0.length c0_0, .slice A0_1 l0_1.length c0_1], .slice A1 l1.length c1] rfl (by (try simp only [List.map_toArray, List.map_cons, List.map_nil]); first | done | rfl | (simp only [List.length_drop, List.length_take]; rfl)) ?_; (with_reducible refine (selfstablaw26_large.calls _ _ l0_0 _ _ l0_1 _ _ l1 false _ ?side1 ?side2 ?side3 ?side4 ?side5 ?side6 A3.out).mono ?_); (case side1 => repeat (first | exact (Kd.C_below HR0_0.out HB.out) | (with_reducible refine Kd.C_alloc ?_ _) | (with_reducible refine Kd.C_drewN ?_ _) | (with_reducible refine Kd.C_drew ?_))); (case side2 => exact HC0_0.out); (case side3 => repeat (first | exact (Kd.C_below HR0_1.out HB.out) | (with_reducible refine Kd.C_alloc ?_ _) | (with_reducible refine Kd.C_drewN ?_ _) | (with_reducible refine Kd.C_drew ?_))); (case side4 => exact HC0_1.out); (case side5 => repeat (first | exact (Kd.C_below HR1.out HB.out) | (with_reducible refine Kd.C_alloc ?_ _) | (with_reducible refine Kd.C_drewN ?_ _) | (with_reducible refine Kd.C_drew ?_))); (case side6 => exact HC1.out); rintro e w25 ⟨rfl, hb⟩; refine ⟨_, rfl, ?_⟩; have n0_ := Aside0.mk (blk_below (g := gb765) (o := .cells #[.slice A0_0 l0_0.length c0_0, .slice A0_1 l0_1.length c0_1] 27 (0, 0)) (by (with_reducible repeat (first | refine blk_drewN ?_ _ | refine blk_drew ?_ | refine blk_alloc ?_ _)); exact BK765.out) hb); have n1_ := Aside0.mk (below_step (by repeat (first | (with_reducible first | exact HB.out | apply below_alloc | apply pw_below_drewN | apply below_drew1 | refine below_set ?_ GE765.out) | exact HB.out)) hb); clear BK765; clear HB; have BK765 := n0_; have HB := n1_; clear n0_ n1_; (try clear hb); (try clear hb2); (try clear hk); (try clear hi)))
      have n0_ := Aside0.mk (blk_drew BK765.out)
      have n1_ := Aside0.mk (below_drew1 HB.out)
      clear BK765
      clear HB
      have BK765 := n0_
      have HB := n1_
      clear n0_ n1_
      refine start_ (n := 34) (S := fun w' => w'.cell? ⟨gb765, 0, none⟩ = some (.slice A0_0 l0_0.length c0_0) ∧ w'.cell? ⟨gb765, 1, none⟩ = some (.slice A0_1 l0_1.length c0_1)) (ds := []) #[false, false, false, false, false, false, false, false, false, false, false, false, false, false, false, false, false, false, false, false, false, false, false, false, false, false, false, false, false, false, false, false, false, false] (by kernel_rfl) rfl rfl ⟨(blk_cell BK765.out 0).trans rfl, (blk_cell BK765.out 1).trans rfl⟩ (fun hHeld => ?_); refine with_tabW selfstablaw26_LeaderJudges.tab3 selfstablaw26_LeaderJudges.bits3 (fun HT_ HW_ => ?_)
      generalize w25.drew = w26 at BK765 HB hHeld ⊢
      refine one_ (i := 0) (N := some 9) #[true, false, false, false, false, false, false, false, false, false, false, false, false, false, false, false, false, false, false, false, false, false, false, false, false, false, false, false, false, false, false, false, false, false] rfl rfl (one_of HT_.out (by kernel_rfl)) (by decide) (fun K hK => ?_)
      refine goes_ Try.func48 (by kernel_rfl) rfl #[] (by rfl) rfl rfl (by (try simp only [List.map_toArray, List.map_cons, List.map_nil]); first | done | rfl | (simp only [List.length_drop, List.length_take]; rfl)) ?_
      with_reducible refine (selfstablaw26_known.calls k  true _ A10.out).mono ?_
      rintro e w27 ⟨rfl, hb⟩
      refine ⟨_, rfl, ?_⟩
      have n0_ := Aside0.mk (blk_below (g := gb765) (o := .cells #[.slice A0_0 l0_0.length c0_0, .slice A0_1 l0_1.length c0_1] 27 (0, 0)) (by (with_reducible repeat (first | refine blk_drewN ?_ _ | refine blk_drew ?_ | refine blk_alloc ?_ _)); exact BK765.out) hb)
      have n1_ := Aside0.mk (below_step (by repeat (first | (with_reducible first | exact HB.out | apply below_alloc | apply pw_below_drewN | apply below_drew1 | refine below_set ?_ GE765.out) | exact HB.out)) hb)
      clear BK765
      clear HB
      have BK765 := n0_
      have HB := n1_
      clear n0_ n1_
      (try clear hb)
      (try clear hb2)
      (try clear hk)
      (try clear hi)
      refine hK.out _ _ ⟨(blk_cell BK765.out 0).trans rfl, (blk_cell BK765.out 1).trans rfl⟩ (fun hHeld => ?_)
      clear hK K
      refine norm_ (a' := ?_) ?_ ?_
      rotate_left
      ·
       show Act.put _ (some 9) _ = _
       simp only [Act.put, List.setIfInBounds_toArray, List.set_cons_zero, List.set_cons_succ, i64_w, i32_w]
       rfl
      refine pure_ (i := 1) (N := some 10) (v := ?_) (a' := ?_) #[true, true, false, false, false, false, false, false, false, false, false, false, false, false, false, false, false, false, false, false, false, false, false, false, false, false, false, false, false, false, false, false, false, false] rfl rfl (any_of HT_.out (by kernel_rfl)) (fun _ _ _ h => h) (Or.inl ⟨by rfl, ?_⟩) ?_ ?_
      rotate_left
      ·
       intro w'
       go_simp
       with_reducible rfl
      rotate_left
      ·
       simp only [Act.put, List.setIfInBounds_toArray, List.set_cons_zero, List.set_cons_succ, i64_w, i32_w]
       rfl
      refine take_ (i := 2) (N := some 11) (v := ?_) (a' := ?_) #[true, true, true, false, false, false, false, false, false, false, false, false, false, false, false, false, false, false, false, false, false, false, false, false, false, false, false, false, false, false, false, false, false, false] rfl rfl (take_ofW HT_.out HW_.out (by kernel_rfl)) (fun _ _ _ h => h) (Or.inl ⟨by rfl, ?_⟩) hHeld ?_ ?_
      rotate_left
      ·
       rintro w' ⟨s0, s1⟩
       go_simp
       with_reducible rfl
      rotate_left
      ·
       simp only [Act.put, List.setIfInBounds_toArray, List.set_cons_zero, List.set_cons_succ, i64_w, i32_w]
       rfl
      refine take_ (i := 4) (N := some 13) (v := ?_) (a' := ?_) #[true, true, true, false, true, false, false, false, false, false, false, false, false, false, false, false, false, false, false, false, false, false, false, false, false, false, false, false, false, false, false, false, false, false] rfl rfl (take_ofW HT_.out HW_.out (by kernel_rfl)) (fun _ _ _ h => h) (Or.inl ⟨by rfl, ?_⟩) hHeld ?_ ?_
      rotate_left
      ·
       rintro w' ⟨s0, s1⟩
       go_simp
       with_reducible rfl
      rotate_left
      ·
       simp only [Act.put, List.setIfInBounds_toArray, List.set_cons_zero, List.set_cons_succ, i64_w, i32_w]
       rfl
      refine one_ (i := 3) (N := some 12) #[true, true, true, true, true, false, false, false, false, false, false, false, false, false, false, false, false, false, false, false, false, false, false, false, false, false, false, false, false, false, false, false, false, false] rfl rfl (one_of HT_.out (by kernel_rfl)) (by decide) (fun K hK => ?_)
      refine goes_ Try.func49 (by kernel_rfl) rfl #[.agg #[.slice A0_0 l0_0.length c0_0, .slice A0_1 l0_1.length c0_1]] (by rfl) rfl rfl (by (try simp only [List.map_toArray, List.map_cons, List.map_nil]); first | done | rfl | (simp only [List.length_drop, List.length_take]; rfl)) ?_
      with_reducible refine (leader_Fit.calls k _ _ l0_0 _ _ l0_1 t769 _ ?side1 ?side2 ?side3 ?side4 A12.out).mono ?_
      (case side1 => repeat (first | exact (Kd.C_below HR0_0.out HB.out) | (with_reducible refine Kd.C_alloc ?_ _) | (with_reducible refine Kd.C_drewN ?_ _) | (with_reducible refine Kd.C_drew ?_)))
      (case side2 => exact HC0_0.out)
      (case side3 => repeat (first | exact (Kd.C_below HR0_1.out HB.out) | (with_reducible refine Kd.C_alloc ?_ _) | (with_reducible refine Kd.C_drewN ?_ _) | (with_reducible refine Kd.C_drew ?_)))
      (case side4 => exact HC0_1.out)
      rintro e w28 ⟨rfl, hb⟩
      refine ⟨_, rfl, ?_⟩
      have n0_ := Aside0.mk (blk_below (g := gb765) (o := .cells #[.slice A0_0 l0_0.length c0_0, .slice A0_1 l0_1.length c0_1] 27 (0, 0)) (by (with_reducible repeat (first | refine blk_drewN ?_ _ | refine blk_drew ?_ | refine blk_alloc ?_ _)); exact BK765.out) hb)
      have n1_ := Aside0.mk (below_step (by repeat (first | (with_reducible first | exact HB.out | apply below_alloc | apply pw_below_drewN | apply below_drew1 | refine below_set ?_ GE765.out) | exact HB.out)) hb)
      clear BK765
      clear HB
      have BK765 := n0_
      have HB := n1_
      clear n0_ n1_
      (try clear hb)
      (try clear hb2)
      (try clear hk)
      (try clear hi)
      refine hK.out _ _ ⟨(blk_cell BK765.out 0).trans rfl, (blk_cell BK765.out 1).trans rfl⟩ (fun hHeld => ?_)
      clear hK K
      refine norm_ (a' := ?_) ?_ ?_
      rotate_left
      ·
       show Act.put _ (some 12) _ = _
       simp only [Act.put, List.setIfInBounds_toArray, List.set_cons_zero, List.set_cons_succ, i64_w, i32_w]
       rfl
      refine one_ (i := 5) (N := some 14) #[true, true, true, true, true, true, false, false, false, false, false, false, false, false, false, false, false, false, false, false, false, false, false, false, false, false, false, false, false, false, false, false, false, false] rfl rfl (one_of HT_.out (by kernel_rfl)) (by decide) (fun K hK => ?_)
      refine goes_ Try.func50 (by kernel_rfl) rfl #[.agg #[.slice A0_0 l0_0.length c0_0, .slice A0_1 l0_1.length c0_1]] (by rfl) rfl rfl (by (try simp only [List.map_toArray, List.map_cons, List.map_nil]); first | done | rfl | (simp only [List.length_drop, List.length_take]; rfl)) ?_
      with_reducible refine (selfstabref26_Fit.calls k _ _ l0_0 _ _ l0_1 t770 _ ?side1 ?side2 ?side3 ?side4 A13.out).mono ?_
      (case side1 => repeat (first | exact (Kd.C_below HR0_0.out HB.out) | (with_reducible refine Kd.C_alloc ?_ _) | (with_reducible refine Kd.C_drewN ?_ _) | (with_reducible refine Kd.C_drew ?_)))
      (case side2 => exact HC0_0.out)
      (case side3 => repeat (first | exact (Kd.C_below HR0_1.out HB.out) | (with_reducible refine Kd.C_alloc ?_ _) | (with_reducible refine Kd.C_drewN ?_ _) | (with_reducible refine Kd.C_drew ?_)))
      (case side4 => exact HC0_1.out)
      rintro e w29 ⟨rfl, hb⟩
      refine ⟨_, rfl, ?_⟩
      have n0_ := Aside0.mk (blk_below (g := gb765) (o := .cells #[.slice A0_0 l0_0.length c0_0, .slice A0_1 l0_1.length c0_1] 27 (0, 0)) (by (with_reducible repeat (first | refine blk_drewN ?_ _ | refine blk_drew ?_ | refine blk_alloc ?_ _)); exact BK765.out) hb)
      have n1_ := Aside0.mk (below_step (by repeat (first | (with_reducible first | exact HB.out | apply below_alloc | apply pw_below_drewN | apply below_drew1 | refine below_set ?_ GE765.out) | exact HB.out)) hb)
      clear BK765
      clear HB
      have BK765 := n0_
      have HB := n1_
      clear n0_ n1_
      (try clear hb)
      (try clear hb2)
      (try clear hk)
      (try clear hi)
      refine hK.out _ _ ⟨(blk_cell BK765.out 0).trans rfl, (blk_cell BK765.out 1).trans rfl⟩ (fun hHeld => ?_)
      clear hK K
      refine norm_ (a' := ?_) ?_ ?_
      rotate_left
      ·
       show Act.put _ (some 14) _ = _
       simp only [Act.put, List.setIfInBounds_toArray, List.set_cons_zero, List.set_cons_succ, i64_w, i32_w]
       rfl
      refine pure_ (i := 6) (N := some 15) (v := ?_) (a' := ?_) #[true, true, true, true, true, true, true, false, false, false, false, false, false, false, false, false, false, false, false, false, false, false, false, false, false, false, false, false, false, false, false, false, false, false] rfl rfl (any_of HT_.out (by kernel_rfl)) (fun _ _ _ h => h) (Or.inl ⟨by rfl, ?_⟩) ?_ ?_
      rotate_left
      ·
       intro w'
       go_simp
       with_reducible rfl
      rotate_left
      ·
       simp only [Act.put, List.setIfInBounds_toArray, List.set_cons_zero, List.set_cons_succ, i64_w, i32_w]
       rfl
      refine pure_ (i := 7) (N := some 16) (v := ?_) (a' := ?_) #[true, true, true, true, true, true, true, true, false, false, false, false, false, false, false, false, false, false, false, false, false, false, false, false, false, false, false, false, false, false, false, false, false, false] rfl rfl (any_of HT_.out (by kernel_rfl)) (fun _ _ _ h => h) (Or.inl ⟨by rfl, ?_⟩) ?_ ?_
      rotate_left
      ·
       intro w'
       go_simp
       with_reducible rfl
      rotate_left
      ·
       simp only [Act.put, List.setIfInBounds_toArray, List.set_cons_zero, List.set_cons_succ, i64_w, i32_w]
       rfl
      refine pure_ (i := 8) (N := some 17) (v := ?_) (a' := ?_) #[true, true, true, true, true, true, true, true, true, false, false, false, false, false, false, false, false, false, false, false, false, false, false, false, false, false, false, false, false, false, false, false, false, false] rfl rfl (any_of HT_.out (by kernel_rfl)) (fun _ _ _ h => h) (Or.inl ⟨by rfl, ?_⟩) ?_ ?_
      rotate_left
      ·
       intro w'
       go_simp
       with_reducible rfl
      rotate_left
      ·
       simp only [Act.put, List.setIfInBounds_toArray, List.set_cons_zero, List.set_cons_succ, i64_w, i32_w]
       rfl
      refine pure_ (i := 10) (N := some 19) (v := ?_) (a' := ?_) #[true, true, true, true, true, true, true, true, true, false, true, false, false, false, false, false, false, false, false, false, false, false, false, false, false, false, false, false, false, false, false, false, false, false] rfl rfl (any_of HT_.out (by kernel_rfl)) (fun _ _ _ h => h) (Or.inl ⟨by rfl, ?_⟩) ?_ ?_
      rotate_left
      ·
       intro w'
       go_simp
       with_reducible rfl
      rotate_left
      ·
       simp only [Act.put, List.setIfInBounds_toArray, List.set_cons_zero, List.set_cons_succ, i64_w, i32_w]
       rfl
      refine pure_ (i := 13) (N := some 22) (v := ?_) (a' := ?_) #[true, true, true, true, true, true, true, true, true, false, true, false, false, true, false, false, false, false, false, false, false, false, false, false, false, false, false, false, false, false, false, false, false, false] rfl rfl (any_of HT_.out (by kernel_rfl)) (fun _ _ _ h => h) (Or.inl ⟨by rfl, ?_⟩) ?_ ?_
      rotate_left
      ·
       intro w'
       go_simp
       with_reducible rfl
      rotate_left
      ·
       simp only [Act.put, List.setIfInBounds_toArray, List.set_cons_zero, List.set_cons_succ, i64_w, i32_w]
       rfl
      refine take_ (i := 9) (N := some 18) (v := ?_) (a' := ?_) #[true, true, true, true, true, true, true, true, true, true, true, false, false, true, false, false, false, false, false, false, false, false, false, false, false, false, false, false, false, false, false, false, false, false] rfl rfl (take_ofW HT_.out HW_.out (by kernel_rfl)) (fun _ _ _ h => h) (Or.inl ⟨by rfl, ?_⟩) hHeld ?_ ?_
      rotate_left
      ·
       rintro w' ⟨s0, s1⟩
       go_simp
       with_reducible rfl
      rotate_left
      ·
       simp only [Act.put, List.setIfInBounds_toArray, List.set_cons_zero, List.set_cons_succ, i64_w, i32_w]
       rfl
      refine take_ (i := 12) (N := some 21) (v := ?_) (a' := ?_) #[true, true, true, true, true, true, true, true, true, true, true, false, true, true, false, false, false, false, false, false, false, false, false, false, false, false, false, false, false, false, false, false, false, false] rfl rfl (take_ofW HT_.out HW_.out (by kernel_rfl)) (fun _ _ _ h => h) (Or.inl ⟨by rfl, ?_⟩) hHeld ?_ ?_
      rotate_left
      ·
       rintro w' ⟨s0, s1⟩
       go_simp
       with_reducible rfl
      rotate_left
      ·
       simp only [Act.put, List.setIfInBounds_toArray, List.set_cons_zero, List.set_cons_succ, i64_w, i32_w]
       rfl
      refine one_ (i := 11) (N := some 20) #[true, true, true, true, true, true, true, true, true, true, true, true, true, true, false, false, false, false, false, false, false, false, false, false, false, false, false, false, false, false, false, false, false, false] rfl rfl (one_of HT_.out (by kernel_rfl)) (by decide) (fun K hK => ?_)
      refine goes_ Try.func51 (by kernel_rfl) rfl #[.agg #[.slice A0_0 l0_0.length c0_0, .slice A0_1 l0_1.length c0_1], .slice A1 l1.length c1] (by rfl) rfl rfl (by (try simp only [List.map_toArray, List.map_cons, List.map_nil]); first | done | rfl | (simp only [List.length_drop, List.length_take]; rfl)) ?_
      with_reducible refine (leader_Legit.calls k _ _ l0_0 _ _ l0_1 _ _ l1 t771 _ ?side1 ?side2 ?side3 ?side4 ?side5 ?side6 A15.out).mono ?_
      (case side1 => repeat (first | exact (Kd.C_below HR0_0.out HB.out) | (with_reducible refine Kd.C_alloc ?_ _) | (with_reducible refine Kd.C_drewN ?_ _) | (with_reducible refine Kd.C_drew ?_)))
      (case side2 => exact HC0_0.out)
      (case side3 => repeat (first | exact (Kd.C_below HR0_1.out HB.out) | (with_reducible refine Kd.C_alloc ?_ _) | (with_reducible refine Kd.C_drewN ?_ _) | (with_reducible refine Kd.C_drew ?_)))
      (case side4 => exact HC0_1.out)
      (case side5 => repeat (first | exact (Kd.C_below HR1.out HB.out) | (with_reducible refine Kd.C_alloc ?_ _) | (with_reducible refine Kd.C_drewN ?_ _) | (with_reducible refine Kd.C_drew ?_)))
      (case side6 => exact HC1.out)
      rintro e w30 ⟨rfl, hb⟩
      refine ⟨_, rfl, ?_⟩
      have n0_ := Aside0.mk (blk_below (g := gb765) (o := .cells #[.slice A0_0 l0_0.length c0_0, .slice A0_1 l0_1.length c0_1] 27 (0, 0)) (by (with_reducible repeat (first | refine blk_drewN ?_ _ | refine blk_drew ?_ | refine blk_alloc ?_ _)); exact BK765.out) hb)
      have n1_ := Aside0.mk (below_step (by repeat (first | (with_reducible first | exact HB.out | apply below_alloc | apply pw_below_drewN | apply below_drew1 | refine below_set ?_ GE765.out) | exact HB.out)) hb)
      clear BK765
      clear HB
      have BK765 := n0_
      have HB := n1_
      clear n0_ n1_
      (try clear hb)
      (try clear hb2)
      (try clear hk)
      (try clear hi)
      refine hK.out _ _ ⟨(blk_cell BK765.out 0).trans rfl, (blk_cell BK765.out 1).trans rfl⟩ (fun hHeld => ?_)
      clear hK K
      refine norm_ (a' := ?_) ?_ ?_
      rotate_left
      ·
       show Act.put _ (some 20) _ = _
       simp only [Act.put, List.setIfInBounds_toArray, List.set_cons_zero, List.set_cons_succ, i64_w, i32_w]
       rfl
      refine one_ (i := 14) (N := some 23) #[true, true, true, true, true, true, true, true, true, true, true, true, true, true, true, false, false, false, false, false, false, false, false, false, false, false, false, false, false, false, false, false, false, false] rfl rfl (one_of HT_.out (by kernel_rfl)) (by decide) (fun K hK => ?_)
      refine goes_ Try.func52 (by kernel_rfl) rfl #[.agg #[.slice A0_0 l0_0.length c0_0, .slice A0_1 l0_1.length c0_1], .slice A1 l1.length c1] (by rfl) rfl rfl (by (try simp only [List.map_toArray, List.map_cons, List.map_nil]); first | done | rfl | (simp only [List.length_drop, List.length_take]; rfl)) ?_
      with_reducible refine (selfstabref26_Legit.calls k _ _ l0_0 _ _ l0_1 _ _ l1 t772 _ ?side1 ?side2 ?side3 ?side4 ?side5 ?side6 A16.out).mono ?_
      (case side1 => repeat (first | exact (Kd.C_below HR0_0.out HB.out) | (with_reducible refine Kd.C_alloc ?_ _) | (with_reducible refine Kd.C_drewN ?_ _) | (with_reducible refine Kd.C_drew ?_)))
      (case side2 => exact HC0_0.out)
      (case side3 => repeat (first | exact (Kd.C_below HR0_1.out HB.out) | (with_reducible refine Kd.C_alloc ?_ _) | (with_reducible refine Kd.C_drewN ?_ _) | (with_reducible refine Kd.C_drew ?_)))
      (case side4 => exact HC0_1.out)
      (case side5 => repeat (first | exact (Kd.C_below HR1.out HB.out) | (with_reducible refine Kd.C_alloc ?_ _) | (with_reducible refine Kd.C_drewN ?_ _) | (with_reducible refine Kd.C_drew ?_)))
      (case side6 => exact HC1.out)
      rintro e w31 ⟨rfl, hb⟩
      refine ⟨_, rfl, ?_⟩
      have n0_ := Aside0.mk (blk_below (g := gb765) (o := .cells #[.slice A0_0 l0_0.length c0_0, .slice A0_1 l0_1.length c0_1] 27 (0, 0)) (by (with_reducible repeat (first | refine blk_drewN ?_ _ | refine blk_drew ?_ | refine blk_alloc ?_ _)); exact BK765.out) hb)
      have n1_ := Aside0.mk (below_step (by repeat (first | (with_reducible first | exact HB.out | apply below_alloc | apply pw_below_drewN | apply below_drew1 | refine below_set ?_ GE765.out) | exact HB.out)) hb)
      clear BK765
      clear HB
      have BK765 := n0_
      have HB := n1_
      clear n0_ n1_
      (try clear hb)
      (try clear hb2)
      (try clear hk)
      (try clear hi)
      refine hK.out _ _ ⟨(blk_cell BK765.out 0).trans rfl, (blk_cell BK765.out 1).trans rfl⟩ (fun hHeld => ?_)
      clear hK K
      refine norm_ (a' := ?_) ?_ ?_
      rotate_left
      ·
       show Act.put _ (some 23) _ = _
       simp only [Act.put, List.setIfInBounds_toArray, List.set_cons_zero, List.set_cons_succ, i64_w, i32_w]
       rfl
      refine pure_ (i := 15) (N := some 24) (v := ?_) (a' := ?_) #[true, true, true, true, true, true, true, true, true, true, true, true, true, true, true, true, false, false, false, false, false, false, false, false, false, false, false, false, false, false, false, false, false, false] rfl rfl (any_of HT_.out (by kernel_rfl)) (fun _ _ _ h => h) (Or.inl ⟨by rfl, ?_⟩) ?_ ?_
      rotate_left
      ·
       intro w'
       go_simp
       with_reducible rfl
      rotate_left
      ·
       simp only [Act.put, List.setIfInBounds_toArray, List.set_cons_zero, List.set_cons_succ, i64_w, i32_w]
       rfl
      refine pure_ (i := 16) (N := some 25) (v := ?_) (a' := ?_) #[true, true, true, true, true, true, true, true, true, true, true, true, true, true, true, true, true, false, false, false, false, false, false, false, false, false, false, false, false, false, false, false, false, false] rfl rfl (any_of HT_.out (by kernel_rfl)) (fun _ _ _ h => h) (Or.inl ⟨by rfl, ?_⟩) ?_ ?_
      rotate_left
      ·
       intro w'
       go_simp
       with_reducible rfl
      rotate_left
      ·
       simp only [Act.put, List.setIfInBounds_toArray, List.set_cons_zero, List.set_cons_succ, i64_w, i32_w]
       rfl
      refine pure_ (i := 17) (N := some 26) (v := ?_) (a' := ?_) #[true, true, true, true, true, true, true, true, true, true, true, true, true, true, true, true, true, true, false, false, false, false, false, false, false, false, false, false, false, false, false, false, false, false] rfl rfl (any_of HT_.out (by kernel_rfl)) (fun _ _ _ h => h) (Or.inl ⟨by rfl, ?_⟩) ?_ ?_
      rotate_left
      ·
       intro w'
       go_simp
       with_reducible rfl
      rotate_left
      ·
       simp only [Act.put, List.setIfInBounds_toArray, List.set_cons_zero, List.set_cons_succ, i64_w, i32_w]
       rfl
      refine take_ (i := 18) (N := some 27) (v := ?_) (a' := ?_) #[true, true, true, true, true, true, true, true, true, true, true, true, true, true, true, true, true, true, true, false, false, false, false, false, false, false, false, false, false, false, false, false, false, false] rfl rfl (take_ofW HT_.out HW_.out (by kernel_rfl)) (fun _ _ _ h => h) (Or.inl ⟨by rfl, ?_⟩) hHeld ?_ ?_
      rotate_left
      ·
       rintro w' ⟨s0, s1⟩
       go_simp
       with_reducible rfl
      rotate_left
      ·
       simp only [Act.put, List.setIfInBounds_toArray, List.set_cons_zero, List.set_cons_succ, i64_w, i32_w]
       rfl
      refine take_ (i := 20) (N := some 29) (v := ?_) (a' := ?_) #[true, true, true, true, true, true, true, true, true, true, true, true, true, true, true, true, true, true, true, false, true, false, false, false, false, false, false, false, false, false, false, false, false, false] rfl rfl (take_ofW HT_.out HW_.out (by kernel_rfl)) (fun _ _ _ h => h) (Or.inl ⟨by rfl, ?_⟩) hHeld ?_ ?_
      rotate_left
      ·
       rintro w' ⟨s0, s1⟩
       go_simp
       with_reducible rfl
      rotate_left
      ·
       simp only [Act.put, List.setIfInBounds_toArray, List.set_cons_zero, List.set_cons_succ, i64_w, i32_w]
       rfl
      refine one_ (i := 19) (N := some 28) #[true, true, true, true, true, true, true, true, true, true, true, true, true, true, true, true, true, true, true, true, true, false, false, false, false, false, false, false, false, false, false, false, false, false] rfl rfl (one_of HT_.out (by kernel_rfl)) (by decide) (fun K hK => ?_)
      refine goes_ Try.func53 (by kernel_rfl) rfl #[.agg #[.slice A0_0 l0_0.length c0_0, .slice A0_1 l0_1.length c0_1]] (by rfl) rfl rfl (by (try simp only [List.map_toArray, List.map_cons, List.map_nil]); first | done | rfl | (simp only [List.length_drop, List.length_take]; rfl)) ?_
      with_reducible refine (leader_Claim.calls k _ _ l0_0 _ _ l0_1 t773 t774 t775 t776 t777 _ ?side1 ?side2 ?side3 ?side4 A18.out).mono ?_
      (case side1 => repeat (first | exact (Kd.C_below HR0_0.out HB.out) | (with_reducible refine Kd.C_alloc ?_ _) | (with_reducible refine Kd.C_drewN ?_ _) | (with_reducible refine Kd.C_drew ?_)))
      (case side2 => exact HC0_0.out)
      (case side3 => repeat (first | exact (Kd.C_below HR0_1.out HB.out) | (with_reducible refine Kd.C_alloc ?_ _) | (with_reducible refine Kd.C_drewN ?_ _) | (with_reducible refine Kd.C_drew ?_)))
      (case side4 => exact HC0_1.out)
      rintro e w32 ⟨rfl, hb⟩
      refine ⟨_, rfl, ?_⟩
      have n0_ := Aside0.mk (blk_below (g := gb765) (o := .cells #[.slice A0_0 l0_0.length c0_0, .slice A0_1 l0_1.length c0_1] 27 (0, 0)) (by (with_reducible repeat (first | refine blk_drewN ?_ _ | refine blk_drew ?_ | refine blk_alloc ?_ _)); exact BK765.out) hb)
      have n1_ := Aside0.mk (below_step (by repeat (first | (with_reducible first | exact HB.out | apply below_alloc | apply pw_below_drewN | apply below_drew1 | refine below_set ?_ GE765.out) | exact HB.out)) hb)
      clear BK765
      clear HB
      have BK765 := n0_
      have HB := n1_
      clear n0_ n1_
      (try clear hb)
      (try clear hb2)
      (try clear hk)
      (try clear hi)
      refine hK.out _ _ ⟨(blk_cell BK765.out 0).trans rfl, (blk_cell BK765.out 1).trans rfl⟩ (fun hHeld => ?_)
      clear hK K
      refine norm_ (a' := ?_) ?_ ?_
      rotate_left
      ·
       show Act.put _ (some 28) _ = _
       simp only [Act.put, List.setIfInBounds_toArray, List.set_cons_zero, List.set_cons_succ, i64_w, i32_w]
       rfl
      refine one_ (i := 21) (N := some 30) #[true, true, true, true, true, true, true, true, true, true, true, true, true, true, true, true, true, true, true, true, true, true, false, false, false, false, false, false, false, false, false, false, false, false] rfl rfl (one_of HT_.out (by kernel_rfl)) (by decide) (fun K hK => ?_)
      refine goes_ Try.func54 (by kernel_rfl) rfl #[.agg #[.slice A0_0 l0_0.length c0_0, .slice A0_1 l0_1.length c0_1]] (by rfl) rfl rfl (by (try simp only [List.map_toArray, List.map_cons, List.map_nil]); first | done | rfl | (simp only [List.length_drop, List.length_take]; rfl)) ?_
      with_reducible refine (selfstabref26_Claim.calls k _ _ l0_0 _ _ l0_1 t778 t779 t780 t781 t782 _ ?side1 ?side2 ?side3 ?side4 A19.out).mono ?_
      (case side1 => repeat (first | exact (Kd.C_below HR0_0.out HB.out) | (with_reducible refine Kd.C_alloc ?_ _) | (with_reducible refine Kd.C_drewN ?_ _) | (with_reducible refine Kd.C_drew ?_)))
      (case side2 => exact HC0_0.out)
      (case side3 => repeat (first | exact (Kd.C_below HR0_1.out HB.out) | (with_reducible refine Kd.C_alloc ?_ _) | (with_reducible refine Kd.C_drewN ?_ _) | (with_reducible refine Kd.C_drew ?_)))
      (case side4 => exact HC0_1.out)
      rintro e w33 ⟨rfl, hb⟩
      refine ⟨_, rfl, ?_⟩
      have n0_ := Aside0.mk (blk_below (g := gb765) (o := .cells #[.slice A0_0 l0_0.length c0_0, .slice A0_1 l0_1.length c0_1] 27 (0, 0)) (by (with_reducible repeat (first | refine blk_drewN ?_ _ | refine blk_drew ?_ | refine blk_alloc ?_ _)); exact BK765.out) hb)
      have n1_ := Aside0.mk (below_step (by repeat (first | (with_reducible first | exact HB.out | apply below_alloc | apply pw_below_drewN | apply below_drew1 | refine below_set ?_ GE765.out) | exact HB.out)) hb)
      clear BK765
      clear HB
      have BK765 := n0_
      have HB := n1_
      clear n0_ n1_
      (try clear hb)
      (try clear hb2)
      (try clear hk)
      (try clear hi)
      refine hK.out _ _ ⟨(blk_cell BK765.out 0).trans rfl, (blk_cell BK765.out 1).trans rfl⟩ (fun hHeld => ?_)
      clear hK K
      refine norm_ (a' := ?_) ?_ ?_
      rotate_left
      ·
       show Act.put _ (some 30) _ = _
       simp only [Act.put, List.setIfInBounds_toArray, List.set_cons_zero, List.set_cons_succ, i64_w, i32_w]
       rfl
      refine pure_ (i := 22) (N := some 31) (v := ?_) (a' := ?_) #[true, true, true, true, true, true, true, true, true, true, true, true, true, true, true, true, true, true, true, true, true, true, true, false, false, false, false, false, false, false, false, false, false, false] rfl rfl (any_of HT_.out (by kernel_rfl)) (fun _ _ _ h => h) (Or.inl ⟨by rfl, ?_⟩) ?_ ?_
      rotate_left
      ·
       intro w'
       go_simp
       with_reducible rfl
      rotate_left
      ·
       simp only [Act.put, List.setIfInBounds_toArray, List.set_cons_zero, List.set_cons_succ, i64_w, i32_w]
       rfl
      refine pure_ (i := 23) (N := some 32) (v := ?_) (a' := ?_) #[true, true, true, true, true, true, true, true, true, true, true, true, true, true, true, true, true, true, true, true, true, true, true, true, false, false, false, false, false, false, false, false, false, false] rfl rfl (any_of HT_.out (by kernel_rfl)) (fun _ _ _ h => h) (Or.inl ⟨by rfl, ?_⟩) ?_ ?_
      rotate_left
      ·
       intro w'
       go_simp
       with_reducible rfl
      rotate_left
      ·
       simp only [Act.put, List.setIfInBounds_toArray, List.set_cons_zero, List.set_cons_succ, i64_w, i32_w]
       rfl
      refine pure_ (i := 24) (N := some 33) (v := ?_) (a' := ?_) #[true, true, true, true, true, true, true, true, true, true, true, true, true, true, true, true, true, true, true, true, true, true, true, true, true, false, false, false, false, false, false, false, false, false] rfl rfl (any_of HT_.out (by kernel_rfl)) (fun _ _ _ h => h) (Or.inl ⟨by rfl, ?_⟩) ?_ ?_
      rotate_left
      ·
       intro w'
       go_simp
       with_reducible rfl
      rotate_left
      ·
       simp only [Act.put, List.setIfInBounds_toArray, List.set_cons_zero, List.set_cons_succ, i64_w, i32_w]
       rfl
      refine pure_ (i := 26) (N := some 35) (v := ?_) (a' := ?_) #[true, true, true, true, true, true, true, true, true, true, true, true, true, true, true, true, true, true, true, true, true, true, true, true, true, false, true, false, false, false, false, false, false, false] rfl rfl (any_of HT_.out (by kernel_rfl)) (fun _ _ _ h => h) (Or.inl ⟨by rfl, ?_⟩) ?_ ?_
      rotate_left
      ·
       intro w'
       go_simp
       with_reducible rfl
      rotate_left
      ·
       simp only [Act.put, List.setIfInBounds_toArray, List.set_cons_zero, List.set_cons_succ, i64_w, i32_w]
       rfl
      refine pure_ (i := 29) (N := some 38) (v := ?_) (a' := ?_) #[true, true, true, true, true, true, true, true, true, true, true, true, true, true, true, true, true, true, true, true, true, true, true, true, true, false, true, false, false, true, false, false, false, false] rfl rfl (any_of HT_.out (by kernel_rfl)) (fun _ _ _ h => h) (Or.inl ⟨by rfl, ?_⟩) ?_ ?_
      rotate_left
      ·
       intro w'
       go_simp
       with_reducible rfl
      rotate_left
      ·
       simp only [Act.put, List.setIfInBounds_toArray, List.set_cons_zero, List.set_cons_succ, i64_w, i32_w]
       rfl
      refine take_ (i := 25) (N := some 34) (v := ?_) (a' := ?_) #[true, true, true, true, true, true, true, true, true, true, true, true, true, true, true, true, true, true, true, true, true, true, true, true, true, true, true, false, false, true, false, false, false, false] rfl rfl (take_ofW HT_.out HW_.out (by kernel_rfl)) (fun _ _ _ h => h) (Or.inl ⟨by rfl, ?_⟩) hHeld ?_ ?_
      rotate_left
      ·
       rintro w' ⟨s0, s1⟩
       go_simp
       with_reducible rfl
      rotate_left
      ·
       simp only [Act.put, List.setIfInBounds_toArray, List.set_cons_zero, List.set_cons_succ, i64_w, i32_w]
       rfl
      refine take_ (i := 28) (N := some 37) (v := ?_) (a' := ?_) #[true, true, true, true, true, true, true, true, true, true, true, true, true, true, true, true, true, true, true, true, true, true, true, true, true, true, true, false, true, true, false, false, false, false] rfl rfl (take_ofW HT_.out HW_.out (by kernel_rfl)) (fun _ _ _ h => h) (Or.inl ⟨by rfl, ?_⟩) hHeld ?_ ?_
      rotate_left
      ·
       rintro w' ⟨s0, s1⟩
       go_simp
       with_reducible rfl
      rotate_left
      ·
       simp only [Act.put, List.setIfInBounds_toArray, List.set_cons_zero, List.set_cons_succ, i64_w, i32_w]
       rfl
      refine one_ (i := 27) (N := some 36) #[true, true, true, true, true, true, true, true, true, true, true, true, true, true, true, true, true, true, true, true, true, true, true, true, true, true, true, true, true, true, false, false, false, false] rfl rfl (one_of HT_.out (by kernel_rfl)) (by decide) (fun K hK => ?_)
      refine goes_ Try.func55 (by kernel_rfl) rfl #[.agg #[.slice A0_0 l0_0.length c0_0, .slice A0_1 l0_1.length c0_1], .slice A1 l1.length c1] (by rfl) rfl rfl (by (try simp only [List.map_toArray, List.map_cons, List.map_nil]); first | done | rfl | (simp only [List.length_drop, List.length_take]; rfl)) ?_
      with_reducible refine (leader_Leader.calls k _ _ l0_0 _ _ l0_1 _ _ l1 t783 _ ?side1 ?side2 ?side3 ?side4 ?side5 ?side6 A21.out).mono ?_
      (case side1 => repeat (first | exact (Kd.C_below HR0_0.out HB.out) | (with_reducible refine Kd.C_alloc ?_ _) | (with_reducible refine Kd.C_drewN ?_ _) | (with_reducible refine Kd.C_drew ?_)))
      (case side2 => exact HC0_0.out)
      (case side3 => repeat (first | exact (Kd.C_below HR0_1.out HB.out) | (with_reducible refine Kd.C_alloc ?_ _) | (with_reducible refine Kd.C_drewN ?_ _) | (with_reducible refine Kd.C_drew ?_)))
      (case side4 => exact HC0_1.out)
      (case side5 => repeat (first | exact (Kd.C_below HR1.out HB.out) | (with_reducible refine Kd.C_alloc ?_ _) | (with_reducible refine Kd.C_drewN ?_ _) | (with_reducible refine Kd.C_drew ?_)))
      (case side6 => exact HC1.out)
      rintro e w34 ⟨rfl, hb⟩
      refine ⟨_, rfl, ?_⟩
      have n0_ := Aside0.mk (blk_below (g := gb765) (o := .cells #[.slice A0_0 l0_0.length c0_0, .slice A0_1 l0_1.length c0_1] 27 (0, 0)) (by (with_reducible repeat (first | refine blk_drewN ?_ _ | refine blk_drew ?_ | refine blk_alloc ?_ _)); exact BK765.out) hb)
      have n1_ := Aside0.mk (below_step (by repeat (first | (with_reducible first | exact HB.out | apply below_alloc | apply pw_below_drewN | apply below_drew1 | refine below_set ?_ GE765.out) | exact HB.out)) hb)
      clear BK765
      clear HB
      have BK765 := n0_
      have HB := n1_
      clear n0_ n1_
      (try clear hb)
      (try clear hb2)
      (try clear hk)
      (try clear hi)
      refine hK.out _ _ ⟨(blk_cell BK765.out 0).trans rfl, (blk_cell BK765.out 1).trans rfl⟩ (fun hHeld => ?_)
      clear hK K
      refine norm_ (a' := ?_) ?_ ?_
      rotate_left
      ·
       show Act.put _ (some 36) _ = _
       simp only [Act.put, List.setIfInBounds_toArray, List.set_cons_zero, List.set_cons_succ, i64_w, i32_w]
       rfl
      refine one_ (i := 30) (N := some 39) #[true, true, true, true, true, true, true, true, true, true, true, true, true, true, true, true, true, true, true, true, true, true, true, true, true, true, true, true, true, true, true, false, false, false] rfl rfl (one_of HT_.out (by kernel_rfl)) (by decide) (fun K hK => ?_)
      refine goes_ Try.func56 (by kernel_rfl) rfl #[.agg #[.slice A0_0 l0_0.length c0_0, .slice A0_1 l0_1.length c0_1], .slice A1 l1.length c1] (by rfl) rfl rfl (by (try simp only [List.map_toArray, List.map_cons, List.map_nil]); first | done | rfl | (simp only [List.length_drop, List.length_take]; rfl)) ?_
      with_reducible refine (selfstabref26_Leader.calls k _ _ l0_0 _ _ l0_1 _ _ l1 t784 _ ?side1 ?side2 ?side3 ?side4 ?side5 ?side6 A22.out).mono ?_
      (case side1 => repeat (first | exact (Kd.C_below HR0_0.out HB.out) | (with_reducible refine Kd.C_alloc ?_ _) | (with_reducible refine Kd.C_drewN ?_ _) | (with_reducible refine Kd.C_drew ?_)))
      (case side2 => exact HC0_0.out)
      (case side3 => repeat (first | exact (Kd.C_below HR0_1.out HB.out) | (with_reducible refine Kd.C_alloc ?_ _) | (with_reducible refine Kd.C_drewN ?_ _) | (with_reducible refine Kd.C_drew ?_)))
      (case side4 => exact HC0_1.out)
      (case side5 => repeat (first | exact (Kd.C_below HR1.out HB.out) | (with_reducible refine Kd.C_alloc ?_ _) | (with_reducible refine Kd.C_drewN ?_ _) | (with_reducible refine Kd.C_drew ?_)))
      (case side6 => exact HC1.out)
      rintro e w35 ⟨rfl, hb⟩
      refine ⟨_, rfl, ?_⟩
      have n0_ := Aside0.mk (blk_below (g := gb765) (o := .cells #[.slice A0_0 l0_0.length c0_0, .slice A0_1 l0_1.length c0_1] 27 (0, 0)) (by (with_reducible repeat (first | refine blk_drewN ?_ _ | refine blk_drew ?_ | refine blk_alloc ?_ _)); exact BK765.out) hb)
      have n1_ := Aside0.mk (below_step (by repeat (first | (with_reducible first | exact HB.out | apply below_alloc | apply pw_below_drewN | apply below_drew1 | refine below_set ?_ GE765.out) | exact HB.out)) hb)
      clear BK765
      clear HB
      have BK765 := n0_
      have HB := n1_
      clear n0_ n1_
      (try clear hb)
      (try clear hb2)
      (try clear hk)
      (try clear hi)
      refine hK.out _ _ ⟨(blk_cell BK765.out 0).trans rfl, (blk_cell BK765.out 1).trans rfl⟩ (fun hHeld => ?_)
      clear hK K
      refine norm_ (a' := ?_) ?_ ?_
      rotate_left
      ·
       show Act.put _ (some 39) _ = _
       simp only [Act.put, List.setIfInBounds_toArray, List.set_cons_zero, List.set_cons_succ, i64_w, i32_w]
       rfl
      refine pure_ (i := 31) (N := some 40) (v := ?_) (a' := ?_) #[true, true, true, true, true, true, true, true, true, true, true, true, true, true, true, true, true, true, true, true, true, true, true, true, true, true, true, true, true, true, true, true, false, false] rfl rfl (any_of HT_.out (by kernel_rfl)) (fun _ _ _ h => h) (Or.inl ⟨by rfl, ?_⟩) ?_ ?_
      rotate_left
      ·
       intro w'
       go_simp
       with_reducible rfl
      rotate_left
      ·
       simp only [Act.put, List.setIfInBounds_toArray, List.set_cons_zero, List.set_cons_succ, i64_w, i32_w]
       rfl
      refine pure_ (i := 32) (N := some 41) (v := ?_) (a' := ?_) #[true, true, true, true, true, true, true, true, true, true, true, true, true, true, true, true, true, true, true, true, true, true, true, true, true, true, true, true, true, true, true, true, true, false] rfl rfl (any_of HT_.out (by kernel_rfl)) (fun _ _ _ h => h) (Or.inl ⟨by rfl, ?_⟩) ?_ ?_
      rotate_left
      ·
       intro w'
       go_simp
       with_reducible rfl
      rotate_left
      ·
       simp only [Act.put, List.setIfInBounds_toArray, List.set_cons_zero, List.set_cons_succ, i64_w, i32_w]
       rfl
      refine pure_ (i := 33) (N := some 4) (v := ?_) (a' := ?_) #[true, true, true, true, true, true, true, true, true, true, true, true, true, true, true, true, true, true, true, true, true, true, true, true, true, true, true, true, true, true, true, true, true, true] rfl rfl (any_of HT_.out (by kernel_rfl)) (fun _ _ _ h => h) (Or.inl ⟨by rfl, ?_⟩) ?_ ?_
      rotate_left
      ·
       intro w'
       go_simp
       with_reducible rfl
      rotate_left
      ·
       simp only [Act.put, List.setIfInBounds_toArray, List.set_cons_zero, List.set_cons_succ, i64_w, i32_w]
       rfl
      refine done_ (done_of HT_.out (by kernel_rfl)) ?_
      try go_wp2
      go_ret
      exact ⟨by first | rfl | (simp [errW_none, errW_some] <;> rfl) | (simp [*, errW_none, errW_some] <;> rfl), by repeat (first | (with_reducible first | exact HB.out | apply below_alloc | apply pw_below_drewN | apply below_drew1 | refine below_set ?_ GE765.out) | exact HB.out)⟩
     ·
      rw [if_neg c20] at H
      exact absurd H (by simp)
    ·
     rw [if_neg c17] at H
     exact absurd H (by simp)
   ·
    rw [if_neg c14] at H
    exact absurd H (by simp)
  ·
   replace c11 := Bool.eq_false_iff.mpr c11
   subst c11
   have H1 : (none) = some r := by rw [if_neg (show ¬ (false = true) by decide)] at H; exact H
   clear H
   have H := H1
   clear H1
   exact absurd H (by simp)
end Go.Proofs.YthapikakneikbaaG
/-
  Plain laws of leader: what the service computes is what its reference says, for any graph and any lists.
-/
namespace Go.Proofs.YthapikakneikbaaG
open Go.RowKit Go.Proofs.YthapikakneikbaaW.PrintWords Go.Proofs.YthapikakneikbaaW.PrintMore
open Go.Proofs.Ythapikakneikbaa (holdsB confB vl firstL firstL_drop minL minTo minTo_succ minTo_one topOf topOf_take)
/-- The place of the least of the first i numbers. -/
def leastTo (ids : List Int) : Nat → Nat
  | 0 => 0
  | i + 1 => if ids.getD i 0 < ids.getD (leastTo ids i) 0 then i else leastTo ids i
theorem leastTo_le (ids : List Int) : ∀ i, leastTo ids i ≤ i - 1
  | 0 => Nat.le_refl _
  | i + 1 => by
    have := leastTo_le ids i
    unfold leastTo
    split <;> omega
def leastN (ids : List Int) : Nat := leastTo ids ids.length
theorem leastN_lt {ids : List Int} (h : 0 < ids.length) : leastN ids < ids.length := by
  have := leastTo_le ids ids.length
  unfold leastN
  omega
theorem getD_get {l : List Int} {i : Nat} (h : i < l.length) : l.getD i 0 = l[i] := by
  rw [List.getD_eq_getElem?_getD, List.getElem?_eq_getElem h]
  rfl
/-- The least number, and no one ahead of it is as small. -/
theorem least_min {ids : List Int} : ∀ i, 1 ≤ i → i ≤ ids.length → ids.getD (leastTo ids i) 0 = minTo ids i ∧ ∀ j, j < leastTo ids i → ids.getD j 0 ≠ minTo ids i := by
  intro i
  induction i with
  | zero => intro h; omega
  | succ i ih =>
    intro _ hi
    by_cases h0 : i = 0
    · subst h0
      have e : leastTo ids 1 = 0 := by unfold leastTo; split <;> rfl
      rw [e, minTo_one (by omega), getD_get (by omega)]
      exact ⟨rfl, fun j hj => absurd hj (by omega)⟩
    · obtain ⟨h1, h2⟩ := ih (by omega) (by omega)
      have h3 : ∀ j, j < i → minTo ids i ≤ ids.getD j 0 := fun j hj => min_le i (by omega) j hj
      rw [minTo_succ (by omega), leastTo, h1, getD_get (show i < ids.length by omega)]
      by_cases hq : ids[i] < minTo ids i
      · rw [if_pos hq, if_pos hq, getD_get (show i < ids.length by omega)]
        refine ⟨rfl, fun j hj => ?_⟩
        have := h3 j hj
        omega
      · rw [if_neg hq, if_neg hq]
        exact ⟨h1, h2⟩
where
  min_le {ids : List Int} : ∀ i, i ≤ ids.length → ∀ j, j < i → minTo ids i ≤ ids.getD j 0 := by
    intro i
    induction i with
    | zero => intro _ j hj; omega
    | succ i ih =>
      intro hi j hj
      rw [minTo_succ (by omega)]
      by_cases e : j = i
      · subst e
        rw [getD_get (by omega)]
        split <;> omega
      · have := ih (by omega) j (by omega)
        split <;> omega
theorem minTo_all (ids : List Int) : minTo ids ids.length = minL ids := by
  unfold minTo minL
  rw [List.take_length]
section
variable {ids : List Int} {p : List (List S60)} {c : List (List Int)}
theorem index_l0 (hl : ids.length ≤ 1000) (h0 : 0 < ids.length) : ∀ m i, m + i = leastN ids →
    Ev (fun k => slices_Index_int_int.l0 k ids (minL ids) (ids.length : Int) (i : Int)) ((leastN ids : Nat) : Int) := by
  have hlt := leastN_lt h0
  obtain ⟨h1, h2⟩ := least_min (ids := ids) ids.length (by omega) (Nat.le_refl _)
  rw [minTo_all] at h1 h2
  intro m
  induction m with
  | zero =>
    intro i hm
    obtain rfl : i = leastN ids := by omega
    refine Ev.step (f := fun _ => some _) (fun k => ?_) Ev.some
    have e : rd ids ((leastN ids : Nat) : Int) = minL ids := by rw [rd_getD]; exact h1
    rw [slices_Index_int_int.l0, if_pos (by omega), if_pos (by omega), if_pos (by omega), e, if_pos rfl]
  | succ m ih =>
    intro i hm
    refine Ev.step (fun k => ?_) (ih (i + 1) (by omega))
    have e : ¬ minL ids = rd ids (i : Int) := by rw [rd_getD]; exact fun h => h2 i (by unfold leastN at hm; omega) h.symm
    rw [slices_Index_int_int.l0, if_pos (by omega), if_pos (by omega), if_pos (by omega), if_neg e, wrap_id (by omega) (by omega)]
    rfl
theorem least_ev (hl : ids.length ≤ 1000) (h0 : 0 < ids.length) : Ev (fun k => leader_least.f k ids p) ((leastN ids : Nat) : Int) := by
  unfold leader_least.f
  refine Ev.bindc (a := minL ids) ?_ (Ev.bind (f := fun _ t => some t) (index_l0 hl h0 (leastN ids) 0 (by omega)) Ev.some)
  unfold slices_Min_int_int.f
  rw [if_pos h0]
theorem rleast_l0 (hl : ids.length ≤ 1000) (h0 : 0 < ids.length) : ∀ m i, m + i = ids.length → 1 ≤ i →
    Ev (fun k => selfstabref26_Least.l0 k ((leastTo ids i : Nat) : Int) (i : Int) ids p) ((leastN ids : Nat) : Int) := by
  intro m
  induction m with
  | zero =>
    intro i hm _
    obtain rfl : i = ids.length := by omega
    refine Ev.step (f := fun _ => some _) (fun k => ?_) Ev.some
    rw [selfstabref26_Least.l0, if_neg (by omega)]
    rfl
  | succ m ih =>
    intro i hm h1
    have hle := leastTo_le ids i
    have hn := ih (i + 1) (by omega) (by omega)
    have e1 : rd ids (i : Int) = ids.getD i 0 := rd_getD
    have e2 : rd ids ((leastTo ids i : Nat) : Int) = ids.getD (leastTo ids i) 0 := rd_getD
    have e3 : wrap64 ((i : Int) + 1) = ((i + 1 : Nat) : Int) := by rw [wrap_id (by omega) (by omega)]; rfl
    refine Ev.step (fun k => ?_) hn
    rw [selfstabref26_Least.l0, if_pos (by omega), if_pos (by omega), if_pos (by omega), if_pos (by omega), e1, e2, e3, leastTo]
    by_cases hq : ids.getD i 0 < ids.getD (leastTo ids i) 0
    · rw [if_pos hq, if_pos hq]
    · rw [if_neg hq, if_neg hq]
theorem rleast_ev (hl : ids.length ≤ 1000) (h0 : 0 < ids.length) : Ev (fun k => selfstabref26_Least.f k ids p) ((leastN ids : Nat) : Int) := by
  unfold selfstabref26_Least.f
  have h := rleast_l0 (p := p) hl h0 (ids.length - 1) 1 (by omega) (Nat.le_refl _)
  have e : leastTo ids 1 = 0 := by unfold leastTo; split <;> rfl
  rw [e] at h
  exact h
theorem greatest_l0 (hl : ids.length ≤ 1000) : ∀ m i, m + i = ids.length → Ev (fun k => shape_Greatest.l0 k (topOf (ids.take i)) ids (ids.length : Int) (i : Int)) (topOf ids) := by
  intro m
  induction m with
  | zero =>
    intro i hm
    obtain rfl : i = ids.length := by omega
    refine Ev.step (f := fun _ => some (topOf ids)) (fun k => ?_) Ev.some
    rw [shape_Greatest.l0, if_neg (by omega), List.take_length]
  | succ m ih =>
    intro i hm
    have hi : i < ids.length := by omega
    have e : mx (topOf (ids.take i)) (rd ids (i : Int)) = topOf (ids.take (i + 1)) := by
      rw [rd_nat hi]
      unfold topOf
      rw [List.take_succ_eq_append_getElem hi, List.foldl_append]
      show mx _ _ = max _ _
      unfold mx
      rw [Int.max_def]
      split <;> split <;> omega
    refine Ev.step (fun k => ?_) (ih (i + 1) (by omega))
    rw [shape_Greatest.l0, if_pos (by omega), if_pos (by omega), if_pos (by omega), e, wrap_id (by omega) (by omega)]
    rfl
theorem greatest_ev (hl : ids.length ≤ 1000) : Ev (fun k => shape_Greatest.f k ids p) (topOf ids) := greatest_l0 hl ids.length 0 (by omega)
theorem topOf_pos (l : List Int) : 0 ≤ topOf l := by
  have : ∀ (l : List Int) (a : Int), 0 ≤ a → 0 ≤ l.foldl max a := by
    intro l
    induction l with
    | nil => exact fun a h => h
    | cons x r ih => exact fun a h => ih _ (by rw [Int.max_def]; split <;> omega)
  exact this l 0 (Int.le_refl 0)
def leadMost (ids : List Int) (p : List (List S60)) : List Int := [topOf ids, (p.length : Int) - 1, -1]
def leadConf (ids : List Int) (p : List (List S60)) (c : List (List Int)) : Bool := connG ids p && holdsB (toG ids p) c (leadMost ids p)
theorem leadConf_rows (h : leadConf ids p c = true) : connG ids p = true ∧ (toG ids p).valid = true ∧ c.length = p.length ∧ ids.length = p.length ∧ 1 ≤ p.length ∧ p.length ≤ 24 ∧ ∀ v, v < c.length → (c.getD v []).length = 3 := by
  unfold leadConf at h
  rw [Bool.and_eq_true] at h
  have h1 := conn_valid h.1
  obtain ⟨h3, h4⟩ := holds_rows h.2
  rw [toG_len] at h3
  have := valid_size h1
  exact ⟨h.1, h1, h3, by omega, by omega, by omega, fun v hv => (h4 v hv).1⟩
/-- The first link over both spellings of a row. -/
theorem firstL_firstP {dl : List Int} {f : Nat → Int} {v : Nat} (hv : dl.getD v 0 = f v) : ∀ (row : List S60) (i : Nat), (∀ l ∈ row, dl.getD l.f0.toNat 0 = f l.f0.toNat) → firstL dl v (row.map toL) i = firstP f (f v) row i := by
  intro row
  induction row with
  | nil => exact fun _ _ => rfl
  | cons l r ih =>
    intro i h
    have h1 := h l List.mem_cons_self
    show (if dl.getD l.f0.toNat 0 < dl.getD v 0 then (i : Int) else firstL dl v (r.map toL) (i + 1)) = _
    rw [ih (i + 1) (fun l hl => h l (List.mem_cons_of_mem _ hl)), h1, hv]
    rfl
theorem dist_getD {a v : Nat} (hv : v < p.length) : (distL p a).getD v 0 = distTo p a p.length v := by
  rw [List.getD_eq_getElem?_getD]
  unfold distL
  rw [outL_get hv]
  rfl
def leadRow (ids : List Int) (c : List (List Int)) (v : Nat) : Bool := decide ((c.getD v []).getD 0 0 = ids.getD (leastN ids) 0)
def leadB (ids : List Int) (p : List (List S60)) (c : List (List Int)) : Bool := leadConf ids p c && ((List.range p.length).all (leadRow ids c) && treeS p c (leastN ids) 1 2)
theorem legB_eq (hV : (toG ids p).valid = true) (hc : c.length = p.length) (a : Nat) : legB (toG ids p) c (ids.getD (leastN ids) 0) (distL p a) = ((List.range p.length).all (leadRow ids c) && treeS p c a 1 2) := by
  unfold legB treeS
  rw [hc, Bool.eq_iff_iff, Bool.and_eq_true, List.all_eq_true, List.all_eq_true, List.all_eq_true, ← forall_and]
  refine forall_congr' fun v => ?_
  by_cases hv : v ∈ List.range p.length
  · have hvl := List.mem_range.1 hv
    have hf : firstL (distL p a) v ((toG ids p).ports.getD v []) 0 = ptrS p a v := by
      unfold ptrS
      rw [toG_row]
      refine firstL_firstP (f := distTo p a p.length) (dist_getD hvl) _ 0 fun l hl => ?_
      rw [List.getD_eq_getElem?_getD, List.getElem?_eq_getElem hvl, Option.getD_some] at hl
      have := valid_to hV hvl hl
      exact dist_getD (by omega)
    unfold legRow leadRow treeRow
    rw [hf, dist_getD hvl]
    unfold vl
    simp only [hv, true_implies, Bool.and_eq_true, decide_eq_true_eq, and_assoc]
  · simp only [hv, false_implies, and_self]
theorem legitL_ev : Ev (fun k => leader_Legit.f k ids p c) (leadB ids p c) := by
  unfold leader_Legit.f legit26 leadB leadConf leader_Fit.f
  refine Ev.bind (Ev.bind (conn_ev ids p) Ev.some) ?_
  cases hC : connG ids p with
  | false => exact Ev.congr (f := fun _ => some false) (fun k => by rw [if_neg (by simp)]) Ev.some
  | true =>
    have hV := conn_valid hC
    obtain ⟨s1, s2, s3⟩ := valid_size hV
    refine Ev.congr (fun k => if_pos rfl) (Ev.bind (greatest_ev (p := p) (by omega)) ?_)
    have e1 : wrap64 ((p.length : Int) - 1) = (p.length : Int) - 1 := wrap_id (by omega) (by omega)
    refine Ev.bindc (a := holdsB (toG ids p) c (leadMost ids p)) (by rw [e1]; rfl) ?_
    cases hh : holdsB (toG ids p) c (leadMost ids p) with
    | false => exact Ev.congr (f := fun _ => some false) (fun k => by rw [if_neg (by simp)]) (Ev.some' rfl)
    | true =>
      have hcf : leadConf ids p c = true := by unfold leadConf; rw [hC, hh]; rfl
      obtain ⟨_, _, h3, h4, _, _, h5⟩ := leadConf_rows hcf
      have hln := leastN_lt (ids := ids) (by omega)
      refine Ev.congr (fun k => if_pos rfl) (Ev.bind (least_ev (p := p) (by omega) (by omega)) (Ev.bind (dist_ev ids p _) ?_))
      rw [distS_yes hV (by omega)]
      refine Ev.congr (f := fun _ => some (legB (toG ids p) c (ids.getD (leastN ids) 0) (distL p (leastN ids)))) (fun k => ?_) (Ev.some' ?_)
      · rw [if_pos ⟨by omega, by omega, hV, distL_len _ _, h3, all_rows h5 (by omega)⟩, Int.toNat_natCast]
      · rw [legB_eq hV h3]
        rfl
theorem conf26 (hV : (toG ids p).valid = true) : ∃ vs, selfstabref26_Vars.f = some vs ∧ selfstabref23_Config.f ids p c vs = some (holdsB (toG ids p) c (leadMost ids p)) := by
  have hs := valid_size hV
  refine ⟨_, rfl, ?_⟩
  unfold selfstabref23_Config.f
  rw [if_pos ⟨by simp, by decide⟩]
  have hm1 : mostOf (toG ids p).ports.length (topOf (toG ids p).ids) ⟨⟨#[108, 101, 97, 100]⟩, 1, 0, 0, 0, 1⟩ = topOf ids := by
    unfold mostOf
    rw [if_neg (by decide), if_neg (by decide), toG_len, toG_ids]
    simp
  have hm2 : mostOf (toG ids p).ports.length (topOf (toG ids p).ids) ⟨⟨#[100]⟩, 1, 0, -1, 1, 0⟩ = (p.length : Int) - 1 := by
    unfold mostOf
    rw [if_neg (by decide), if_neg (by decide), toG_len]
    simp
    omega
  have ht := topOf_pos ids
  congr 1
  refine conf_holds hV (most := leadMost ids p) ?_ ?_
  · show leadMost ids p = [mostOf _ _ _, mostOf _ _ _, mostOf _ _ _]
    exact congr (congrArg (fun x y => [x, y, (-1 : Int)]) hm1.symm) hm2.symm
  · intro x hx
    simp at hx
    rcases hx with rfl | rfl | rfl
    · refine .inr ⟨.inr rfl, ?_⟩
      show mostOf _ _ (⟨⟨#[108, 101, 97, 100]⟩, 1, 0, 0, 0, 1⟩ : Go.Proofs.Ythapikakneikbaa.Var) ≠ -1
      rw [hm1]; omega
    · refine .inr ⟨.inr rfl, ?_⟩
      show mostOf _ _ (⟨⟨#[100]⟩, 1, 0, -1, 1, 0⟩ : Go.Proofs.Ythapikakneikbaa.Var) ≠ -1
      rw [hm2]; omega
    · exact .inl rfl
theorem rlegit_l0 (hC : connG ids p = true) (hc : c.length = p.length) (hr : ∀ v, v < c.length → (c.getD v []).length = 3) : ∀ m i, m + i = p.length → (List.range i).all (leadRow ids c) = true →
    Ev (fun k => selfstabref26_Legit.l0 k c ((leastN ids : Nat) : Int) (i : Int) ids p) ((List.range p.length).all (leadRow ids c) && treeS p c (leastN ids) 1 2) := by
  have hV := conn_valid hC
  obtain ⟨s1, s2, s3⟩ := valid_size hV
  have hln := leastN_lt (ids := ids) (by omega)
  intro m
  induction m with
  | zero =>
    intro i hm h
    obtain rfl : i = p.length := by omega
    refine Ev.step (f := fun k => (selfstabref23_Tree.f k ids p c ((leastN ids : Nat) : Int) 1 2).bind fun t => some t) (fun k => ?_) (Ev.bind (rtree_ev (c := c) hC (a := leastN ids) (by omega) 1 2 (by omega) (by omega) hc (fun v hv => by have := hr v (by omega); omega)) (Ev.some' (by rw [h, Bool.true_and])))
    rw [selfstabref26_Legit.l0, if_neg (by omega)]
  | succ m ih =>
    intro i hm h
    have c0 : (0 : Int) ≤ (i : Int) := by omega
    have c2 : (i : Int) < (c.length : Int) := by omega
    have c4 : (0 : Int) < ((rd_L3 c (i : Int)).length : Int) := by rw [rdRow_nat, hr i (by omega)]; decide
    have c5 : (0 : Int) ≤ ((leastN ids : Nat) : Int) := by omega
    have c6 : ((leastN ids : Nat) : Int) < (ids.length : Int) := by omega
    have e1 : rd (rd_L3 c (i : Int)) 0 = (c.getD i []).getD 0 0 := by rw [rdRow_nat]; rfl
    have e2 : rd ids ((leastN ids : Nat) : Int) = ids.getD (leastN ids) 0 := rd_getD
    have e3 : wrap64 ((i : Int) + 1) = ((i + 1 : Nat) : Int) := by rw [wrap_id (by omega) (by omega)]; rfl
    by_cases hq : (c.getD i []).getD 0 0 = ids.getD (leastN ids) 0
    · refine Ev.step (fun k => ?_) (ih (i + 1) (by omega) (by rw [range_succ_all, h]; exact decide_eq_true hq))
      rw [selfstabref26_Legit.l0, if_pos c2, if_pos c0, if_pos c4, if_pos c5, if_pos c6, e1, e2, if_pos hq, e3]
    · refine Ev.step (f := fun _ => some false) (fun k => ?_) (Ev.some' ?_)
      · rw [selfstabref26_Legit.l0, if_pos c2, if_pos c0, if_pos c4, if_pos c5, if_pos c6, e1, e2, if_neg hq]
      · rw [range_all (show i < p.length by omega) (show leadRow ids c i = false from decide_eq_false hq), Bool.false_and]
theorem rlegitL_ev : Ev (fun k => selfstabref26_Legit.f k ids p c) (leadB ids p c) := by
  unfold selfstabref26_Legit.f selfstabref26_Fit.f leadB leadConf
  have no : Ev (fun k => selfstabref26_Legit.j0 k c true ids p) false := Ev.step (f := fun _ => some false) (fun k => by rw [selfstabref26_Legit.j0, if_pos rfl]) Ev.some
  refine Ev.bind (Ev.bind (rconn_ev ids p) Ev.some) ?_
  cases hC : connG ids p with
  | false => exact Ev.congr (fun k => by rw [if_neg (by simp)]) no
  | true =>
    have hV := conn_valid hC
    obtain ⟨vs, hvs, hcf⟩ := conf26 (c := c) hV
    refine Ev.congr (fun k => by rw [if_pos rfl, hvs, Option.bind_some, hcf, Option.bind_some]) (f := fun k => selfstabref26_Legit.j0 k c (!holdsB (toG ids p) c (leadMost ids p)) ids p) ?_
    cases hh : holdsB (toG ids p) c (leadMost ids p) with
    | false => exact no
    | true =>
      have hcf2 : leadConf ids p c = true := by unfold leadConf; rw [hC, hh]; rfl
      obtain ⟨_, _, h3, h4, _, _, h5⟩ := leadConf_rows hcf2
      refine Ev.step (f := fun k => (selfstabref26_Least.f k ids p).bind fun t => selfstabref26_Legit.l0 k c t 0 ids p) (fun k => ?_) (Ev.bind (rleast_ev (p := p) (by omega) (by omega)) ?_)
      · rw [selfstabref26_Legit.j0, if_neg (by simp)]
      · exact rlegit_l0 hC h3 h5 p.length 0 (by omega) rfl
theorem claimL_ev : ∃ r, Ev (fun k => leader_Claim.f k ids p) r ∧ Ev (fun k => selfstabref26_Claim.f k ids p) r := by
  unfold leader_Claim.f selfstabref26_Claim.f leader_Fit.f selfstabref26_Fit.f
  cases hC : connG ids p with
  | false =>
    refine ⟨(0, false, false, 0, 0), Ev.bind (Ev.bind (conn_ev ids p) Ev.some) ?_, Ev.bind (Ev.bind (rconn_ev ids p) Ev.some) ?_⟩ <;> rw [hC] <;> exact Ev.congr (f := fun _ => some (0, false, false, 0, 0)) (fun k => by rw [if_neg (by simp)]) Ev.some
  | true =>
    obtain ⟨s1, s2, s3⟩ := valid_size (conn_valid hC)
    have hln := leastN_lt (ids := ids) (by omega)
    refine ⟨(3, false, true, wrap64 ((p.length : Int) + maxS (distS ids p ((leastN ids : Nat) : Int))), -1), Ev.bind (Ev.bind (conn_ev ids p) Ev.some) ?_, Ev.bind (Ev.bind (rconn_ev ids p) Ev.some) ?_⟩ <;> rw [hC]
    · refine Ev.congr (fun k => if_pos rfl) (Ev.bind (least_ev (p := p) (by omega) (by omega)) (Ev.bind (ecc_ev (ids := ids) (p := p) _) (Ev.some' ?_)))
      rw [hC, if_pos rfl]
    · refine Ev.congr (fun k => if_pos rfl) (Ev.bind (rleast_ev (p := p) (by omega) (by omega)) (Ev.bind (recc_ev (ids := ids) (p := p) _) (Ev.some' ?_)))
      rw [greatS_conn hC (by omega)]
theorem leader_ev : Ev (fun k => leader_Leader.f k ids p c) (if leadB ids p c = true then ((leastN ids : Nat) : Int) else -1) := by
  unfold leader_Leader.f
  refine Ev.bind legitL_ev ?_
  cases hf : leadB ids p c with
  | false => exact Ev.congr (f := fun _ => some (-1)) (fun k => by rw [if_neg (by simp)]) Ev.some
  | true =>
    have hcf : leadConf ids p c = true := by unfold leadB at hf; rw [Bool.and_eq_true] at hf; exact hf.1
    obtain ⟨_, _, h3, h4, _, _, h5⟩ := leadConf_rows hcf
    rw [if_pos rfl]
    exact Ev.congr (fun k => if_pos rfl) (Ev.bind (least_ev (p := p) (by omega) (by omega)) Ev.some)
theorem rleader_ev : Ev (fun k => selfstabref26_Leader.f k ids p c) (if leadB ids p c = true then ((leastN ids : Nat) : Int) else -1) := by
  unfold selfstabref26_Leader.f
  refine Ev.bind rlegitL_ev ?_
  cases hf : leadB ids p c with
  | false => exact Ev.congr (f := fun _ => some (-1)) (fun k => by rw [if_neg (by simp)]) Ev.some
  | true =>
    have hcf : leadConf ids p c = true := by unfold leadB at hf; rw [Bool.and_eq_true] at hf; exact hf.1
    obtain ⟨_, _, h3, h4, _, _, h5⟩ := leadConf_rows hcf
    rw [if_pos rfl]
    exact Ev.congr (fun k => if_pos rfl) (Ev.bind (rleast_ev (p := p) (by omega) (by omega)) Ev.some)
end
set_option maxRecDepth 100000 in
theorem known26_at : selfstablaw26_known.f 60 = some true := by kernel_rfl
theorem known26_ev : Ev selfstablaw26_known.f true := Ev.of (fun k => selfstablaw26_known.mono k) known26_at
/-- The statement, over plain data. -/
theorem leaderJudges (ids : List Int) (p : List (List S60)) (c : List (List Int)) : ∃ k, selfstablaw26_LeaderJudges.f k ids p c = some true := by
  refine Ev.rounds ?_
  unfold selfstablaw26_LeaderJudges.f
  have hl : ∃ b, selfstablaw26_large.f ids p c = some b := by
    unfold selfstablaw26_large.f
    split <;> (try split) <;> exact ⟨_, rfl⟩
  obtain ⟨b, hl⟩ := hl
  refine Ev.bindc hl ?_
  cases b with
  | true =>
    simp only [↓reduceIte]
    exact Ev.bind known26_ev Ev.some
  | false =>
    simp only [Bool.false_eq_true, ↓reduceIte]
    refine Ev.bind known26_ev ?_
    simp only [↓reduceIte]
    refine Ev.bind (Ev.bind (conn_ev ids p) Ev.some) (Ev.bind (Ev.bind (rconn_ev ids p) Ev.some) ?_)
    simp only [beq_self_eq_true, ↓reduceIte]
    refine Ev.bind legitL_ev (Ev.bind rlegitL_ev ?_)
    simp only [beq_self_eq_true, ↓reduceIte]
    obtain ⟨r, h2, h3⟩ := claimL_ev (ids := ids) (p := p)
    refine Ev.bind h2 (Ev.bind h3 ?_)
    simp only [beq_self_eq_true, Bool.and_self, ↓reduceIte]
    refine Ev.bind leader_ev (Ev.bind rleader_ev ?_)
    simp only [beq_self_eq_true]
    exact Ev.some
end Go.Proofs.YthapikakneikbaaG
