/-
  Lemmas and walks for this claim, part 6: Gselfstabref27Legit, Gselfstabref01Diameter, Gselfstabref27Claim, RefsBridge, Gselfstabref01All, Gselfstabref27Highest, Gselfstabref27Centers, Gselfstablaw27CenterJudges, PCenter, Open, Back.
-/
import Derived.KernelRfl
import Derived.ProofKit
import Derived.OpenShut
import Derived.ChangeOld
import Derived.Below
import Derived.Deep.Slices
import Derived.Test.YthapikakneikbaaCJ5
namespace Go.Proofs.YthapikakneikbaaG
open Go.RowKit Go.Proofs.YthapikakneikbaaW.PrintWords Go.Proofs.YthapikakneikbaaW.PrintLast Go.Proofs.YthapikakneikbaaW.PrintMore
attribute [local go_sem] max2_int min2_int max_two min_two max_three min_three max_four min_four   -- for this text's walks alone
set_option linter.unusedVariables false
set_option linter.unusedSimpArgs false
def selfstabref27_Legit.f (k : Nat) (l0_0 : List Int) (l0_1 : List (List (S60))) (l1 : List (List Int)) : Option (Bool) := (selfstabref27_Fit.f k l0_0 l0_1).bind fun t881 => (if t881 = true then ((selfstabref27_Vars.f).bind fun t882 => ((selfstabref23_Config.f l0_0 l0_1 l1 t882).bind fun t885 => (if t885 = true then ((selfstabref27_Exact.f k l0_0 l0_1 l1 0).bind fun t886 => (some t886)) else (some false)))) else (some false))
theorem selfstabref27_Legit.mono : ∀ a0 a1 a2 k, LeO (selfstabref27_Legit.f k a0 a1 a2) (selfstabref27_Legit.f (k + 1) a0 a1 a2) := by
 intro a0 a1 a2 k
 unfold selfstabref27_Legit.f
 repeat' first
   | (with_reducible exact selfstabref27_Exact.mono _ _ _ _ _)
   | (with_reducible exact selfstabref27_Fit.mono _ _ _)
   | (with_reducible exact LeO.refl _)
   | (with_reducible exact LeO.none _)
   | (with_reducible refine LeO.ite ?_ ?_)
   | (with_reducible refine LeO.bind ?_ (fun _ => ?_))
   | exact selfstabref27_Exact.mono _ _ _ _ _
   | exact selfstabref27_Fit.mono _ _ _
   | exact LeO.none _
   | refine LeO.ite ?_ ?_
   | refine LeO.bind ?_ (fun _ => ?_)
def selfstabref27_Legit.T1 : Bool × List (List Nat × List Nat) := (true, [([], []), ([0], [0]), ([1, 1], [1]), ([2], [2]), ([2], [2]), ([2, 2], [2]), ([3, 4, 5, 5, 2], [2, 3, 4, 5]), ([2, 6], [2, 6]), ([7, 6], [7]), ([8], [8]), ([8], [8]), ([9, 10, 8, 8], [8, 9, 10]), ([8, 11], [8, 11]), ([12, 11, 0, 1, 2, 3, 4, 5, 6, 7, 8, 9, 10, 11, 12], [12])])
def selfstabref27_Legit.B1 : List Nat := [0, 1, 3, 7, 7, 7, 63, 127, 255, 511, 511, 2047, 4095, 8191]
theorem selfstabref27_Legit.tab1 : rtab .any (opsOf Try.f62 1) = selfstabref27_Legit.T1 := by kernel_rfl
theorem selfstabref27_Legit.bits1 : waitsOk selfstabref27_Legit.T1.2 selfstabref27_Legit.B1 = true := by kernel_rfl
set_option maxHeartbeats 8000000 in
set_option maxRecDepth 100000 in
theorem selfstabref27_Legit.calls (k : Nat) (A0_0 : Option Addr) (c0_0 : Nat) (l0_0 : List Int) (A0_1 : Option Addr) (c0_1 : Nat) (l0_1 : List (List (S60))) (A1 : Option Addr) (c1 : Nat) (l1 : List (List Int)) (r : Bool) (w : World) (hr0_0 : Kd.C (Kd.int .i64) w A0_0 l0_0.length l0_0) (hc0_0 : l0_0.length ≤ c0_0) (hr0_1 : Kd.C (Kd.slice 60 k60) w A0_1 l0_1.length l0_1) (hc0_1 : l0_1.length ≤ c0_1) (hr1 : Kd.C (Kd.slice 3 (Kd.int .i64)) w A1 l1.length l1) (hc1 : l1.length ≤ c1) (h : selfstabref27_Legit.f k l0_0 l0_1 l1 = some r) :
  Calls Try.prog 62 #[.agg #[.slice A0_0 l0_0.length c0_0, .slice A0_1 l0_1.length c0_1], .slice A1 l1.length c1] w fun e w' => e = .returned (.bool r) ∧ Below w.heap.size w w' := by
 have hu27 := Try.underlying27
 have HR0_0 := Aside0.mk hr0_0
 have HC0_0 := Aside0.mk hc0_0
 clear hr0_0 hc0_0
 have HR0_1 := Aside0.mk hr0_1
 have HC0_1 := Aside0.mk hc0_1
 clear hr0_1 hc0_1
 have HR1 := Aside0.mk hr1
 have HC1 := Aside0.mk hc1
 clear hr1 hc1
 have HB := Aside0.mk (Below.refl w.heap.size w)
 have H : ((selfstabref27_Fit.f k l0_0 l0_1).bind fun t881 => (if t881 = true then ((selfstabref27_Vars.f).bind fun t882 => ((selfstabref23_Config.f l0_0 l0_1 l1 t882).bind fun t885 => (if t885 = true then ((selfstabref27_Exact.f k l0_0 l0_1 l1 0).bind fun t886 => (some t886)) else (some false)))) else (some false))) = some r := h
 clear h
 replace H := Option.bind_eq_some_iff.mp H
 obtain ⟨t881, A30, H⟩ := H
 replace H : (if t881 = true then ((selfstabref27_Vars.f).bind fun t882 => ((selfstabref23_Config.f l0_0 l0_1 l1 t882).bind fun t885 => (if t885 = true then ((selfstabref27_Exact.f k l0_0 l0_1 l1 0).bind fun t886 => (some t886)) else (some false)))) else (some false)) = some r := H
 have A3 := Aside0.mk A30
 clear A30
 by_cases c4 : t881 = true
 ·
  subst c4
  have H1 : ((selfstabref27_Vars.f).bind fun t882 => ((selfstabref23_Config.f l0_0 l0_1 l1 t882).bind fun t885 => (if t885 = true then ((selfstabref27_Exact.f k l0_0 l0_1 l1 0).bind fun t886 => (some t886)) else (some false)))) = some r := by rw [if_pos rfl] at H; exact H
  clear H
  have H := H1
  clear H1
  replace H := Option.bind_eq_some_iff.mp H
  obtain ⟨t882, A50, H⟩ := H
  replace H : ((selfstabref23_Config.f l0_0 l0_1 l1 t882).bind fun t885 => (if t885 = true then ((selfstabref27_Exact.f k l0_0 l0_1 l1 0).bind fun t886 => (some t886)) else (some false))) = some r := H
  have A5 := Aside0.mk A50
  clear A50
  replace H := Option.bind_eq_some_iff.mp H
  obtain ⟨t885, A60, H⟩ := H
  replace H : (if t885 = true then ((selfstabref27_Exact.f k l0_0 l0_1 l1 0).bind fun t886 => (some t886)) else (some false)) = some r := H
  have A6 := Aside0.mk A60
  clear A60
  by_cases c7 : t885 = true
  ·
   subst c7
   have H1 : ((selfstabref27_Exact.f k l0_0 l0_1 l1 0).bind fun t886 => (some t886)) = some r := by rw [if_pos rfl] at H; exact H
   clear H
   have H := H1
   clear H1
   replace H := Option.bind_eq_some_iff.mp H
   obtain ⟨t886, A80, H⟩ := H
   replace H : (some t886) = some r := H
   have A8 := Aside0.mk A80
   clear A80
   obtain rfl := Option.some.inj H
   go_enter Try.func62, Try.ntmps62
   try go_wp2_with (first | ((with_reducible refine gate_dst (N := 2) rfl ?_); refine box_event ?hg (N := 2) ?hd (cs := #[.slice A0_0 l0_0.length c0_0, .slice A0_1 l0_1.length c0_1]) (t := 27) ?hr ?_; (case hd => rfl); (case hg => rfl); (case hr => first | (go_simp; done) | (go_simp; rfl)); intro gb880 hg w9 hbox hb; have n0_ := Aside0.mk (below_step (by repeat (first | (with_reducible first | exact HB.out | apply below_alloc | apply pw_below_drewN | apply below_drew1) | exact HB.out)) hb); have n1_ := Aside0.mk (hbox); have n2_ := Aside0.mk ((by rw [hg]; exact (below_size (by repeat (first | (with_reducible first | exact HB.out | apply below_alloc | apply pw_below_drewN | apply below_drew1) | exact HB.out))) : w.heap.size ≤ gb880)); have n3_ := Aside0.mk ((by rw [hg]; exact (below_size (by repeat (first | (with_reducible first | exact HB.out | apply below_alloc | apply pw_below_drewN | apply below_drew1) | exact HB.out))) : w.heap.size ≤ gb880)); clear HB; have HB := n0_; have BK880 := n1_; have GW880 := n2_; have GE880 := n3_; clear n0_ n1_ n2_ n3_; clear hb hbox hg))
   have n0_ := Aside0.mk (blk_drew BK880.out)
   have n1_ := Aside0.mk (below_drew1 HB.out)
   clear BK880
   clear HB
   have BK880 := n0_
   have HB := n1_
   clear n0_ n1_
   refine start_ (n := 14) (S := fun w' => w'.cell? ⟨gb880, 0, none⟩ = some (.slice A0_0 l0_0.length c0_0) ∧ w'.cell? ⟨gb880, 1, none⟩ = some (.slice A0_1 l0_1.length c0_1)) (ds := []) #[false, false, false, false, false, false, false, false, false, false, false, false, false, false] (by kernel_rfl) rfl rfl ⟨(blk_cell BK880.out 0).trans rfl, (blk_cell BK880.out 1).trans rfl⟩ (fun hHeld => ?_); refine with_tabW selfstabref27_Legit.tab1 selfstabref27_Legit.bits1 (fun HT_ HW_ => ?_)
   generalize w9.drew = w10 at BK880 HB hHeld ⊢
   refine take_ (i := 0) (N := some 5) (v := ?_) (a' := ?_) #[true, false, false, false, false, false, false, false, false, false, false, false, false, false] rfl rfl (take_ofW HT_.out HW_.out (by kernel_rfl)) (fun _ _ _ h => h) (Or.inl ⟨by rfl, ?_⟩) hHeld ?_ ?_
   rotate_left
   ·
    rintro w' ⟨s0, s1⟩
    go_simp
    with_reducible rfl
   rotate_left
   ·
    simp only [Act.put, List.setIfInBounds_toArray, List.set_cons_zero, List.set_cons_succ, i64_w, i32_w]
    rfl
   refine one_ (i := 1) (N := some 6) #[true, true, false, false, false, false, false, false, false, false, false, false, false, false] rfl rfl (one_of HT_.out (by kernel_rfl)) (by decide) (fun K hK => ?_)
   refine goes_ Try.func60 (by kernel_rfl) rfl #[.agg #[.slice A0_0 l0_0.length c0_0, .slice A0_1 l0_1.length c0_1]] (by rfl) rfl rfl (by (try simp only [List.map_toArray, List.map_cons, List.map_nil]); first | done | rfl | (simp only [List.length_drop, List.length_take]; rfl)) ?_
   with_reducible refine (selfstabref27_Fit.calls k _ _ l0_0 _ _ l0_1 true _ ?side1 ?side2 ?side3 ?side4 A3.out).mono ?_
   (case side1 => repeat (first | exact (Kd.C_below HR0_0.out HB.out) | (with_reducible refine Kd.C_alloc ?_ _) | (with_reducible refine Kd.C_drewN ?_ _) | (with_reducible refine Kd.C_drew ?_)))
   (case side2 => exact HC0_0.out)
   (case side3 => repeat (first | exact (Kd.C_below HR0_1.out HB.out) | (with_reducible refine Kd.C_alloc ?_ _) | (with_reducible refine Kd.C_drewN ?_ _) | (with_reducible refine Kd.C_drew ?_)))
   (case side4 => exact HC0_1.out)
   rintro e w11 ⟨rfl, hb⟩
   refine ⟨_, rfl, ?_⟩
   have n0_ := Aside0.mk (blk_below (g := gb880) (o := .cells #[.slice A0_0 l0_0.length c0_0, .slice A0_1 l0_1.length c0_1] 27 (0, 0)) (by (with_reducible repeat (first | refine blk_drewN ?_ _ | refine blk_drew ?_ | refine blk_alloc ?_ _)); exact BK880.out) hb)
   have n1_ := Aside0.mk (below_step (by repeat (first | (with_reducible first | exact HB.out | apply below_alloc | apply pw_below_drewN | apply below_drew1 | refine below_set ?_ GE880.out) | exact HB.out)) hb)
   clear BK880
   clear HB
   have BK880 := n0_
   have HB := n1_
   clear n0_ n1_
   (try clear hb)
   (try clear hb2)
   (try clear hk)
   (try clear hi)
   refine hK.out _ _ ⟨(blk_cell BK880.out 0).trans rfl, (blk_cell BK880.out 1).trans rfl⟩ (fun hHeld => ?_)
   clear hK K
   refine norm_ (a' := ?_) ?_ ?_
   rotate_left
   ·
    show Act.put _ (some 6) _ = _
    simp only [Act.put, List.setIfInBounds_toArray, List.set_cons_zero, List.set_cons_succ, i64_w, i32_w]
    rfl
   refine pure_ (i := 2) (N := some 7) (v := ?_) (a' := ?_) #[true, true, true, false, false, false, false, false, false, false, false, false, false, false] rfl rfl (any_of HT_.out (by kernel_rfl)) (fun _ _ _ h => h) (Or.inl ⟨by rfl, ?_⟩) ?_ ?_
   rotate_left
   ·
    intro w'
    go_simp
    with_reducible rfl
   rotate_left
   ·
    simp only [Act.put, List.setIfInBounds_toArray, List.set_cons_zero, List.set_cons_succ, i64_w, i32_w]
    rfl
   refine pure_ (i := 4) (N := some 9) (v := ?_) (a' := ?_) #[true, true, true, false, true, false, false, false, false, false, false, false, false, false] rfl rfl (any_of HT_.out (by kernel_rfl)) (fun _ _ _ h => h) (Or.inl ⟨by rfl, ?_⟩) ?_ ?_
   rotate_left
   ·
    intro w'
    go_simp
    with_reducible rfl
   rotate_left
   ·
    simp only [Act.put, List.setIfInBounds_toArray, List.set_cons_zero, List.set_cons_succ, i64_w, i32_w]
    rfl
   refine take_ (i := 3) (N := some 8) (v := ?_) (a' := ?_) #[true, true, true, true, true, false, false, false, false, false, false, false, false, false] rfl rfl (take_ofW HT_.out HW_.out (by kernel_rfl)) (fun _ _ _ h => h) (Or.inl ⟨by rfl, ?_⟩) hHeld ?_ ?_
   rotate_left
   ·
    rintro w' ⟨s0, s1⟩
    go_simp
    with_reducible rfl
   rotate_left
   ·
    simp only [Act.put, List.setIfInBounds_toArray, List.set_cons_zero, List.set_cons_succ, i64_w, i32_w]
    rfl
   refine one_ (i := 5) (N := some 10) #[true, true, true, true, true, true, false, false, false, false, false, false, false, false] rfl rfl (one_of HT_.out (by kernel_rfl)) (by decide) (fun K hK => ?_)
   refine goes_ Try.func108 (by kernel_rfl) rfl #[] (by rfl) rfl rfl (by (try simp only [List.map_toArray, List.map_cons, List.map_nil]); first | done | rfl | (simp only [List.length_drop, List.length_take]; rfl)) ?_
   with_reducible refine (selfstabref27_Vars.calls  t882 _ A5.out).mono ?_
   rintro e w12 ⟨v883, rfl, ho0, hb⟩
   refine ⟨_, rfl, ?_⟩
   have n0_ := Aside0.mk (Kd.R_lower ho0 (below_size (by repeat (first | (with_reducible first | exact HB.out | apply below_alloc | apply pw_below_drewN | apply below_drew1 | refine below_set ?_ GE880.out) | exact HB.out))))
   have n1_ := Aside0.mk (blk_below (g := gb880) (o := .cells #[.slice A0_0 l0_0.length c0_0, .slice A0_1 l0_1.length c0_1] 27 (0, 0)) (by (with_reducible repeat (first | refine blk_drewN ?_ _ | refine blk_drew ?_ | refine blk_alloc ?_ _)); exact BK880.out) hb)
   have n2_ := Aside0.mk (below_step (by repeat (first | (with_reducible first | exact HB.out | apply below_alloc | apply pw_below_drewN | apply below_drew1 | refine below_set ?_ GE880.out) | exact HB.out)) hb)
   clear BK880
   clear HB
   have HO884 := n0_
   have BK880 := n1_
   have HB := n2_
   clear n0_ n1_ n2_
   (try clear hb)
   (try clear hb2)
   (try clear hk)
   (try clear hi)
   (try clear ho0)
   obtain ⟨Ao13, co13, eo13⟩ := Kd.R_slice HO884.out
   (first | subst eo13 | (injection eo13 with f1_ f2_ f3_; have f4_ := f1_.symm; have f5_ := f3_.symm; clear f1_ f2_ f3_; subst f4_; subst f5_))
   refine hK.out _ _ ⟨(blk_cell BK880.out 0).trans rfl, (blk_cell BK880.out 1).trans rfl⟩ (fun hHeld => ?_)
   clear hK K
   refine norm_ (a' := ?_) ?_ ?_
   rotate_left
   ·
    show Act.put _ (some 10) _ = _
    simp only [Act.put, List.setIfInBounds_toArray, List.set_cons_zero, List.set_cons_succ, i64_w, i32_w]
    rfl
   refine one_ (i := 6) (N := some 11) #[true, true, true, true, true, true, true, false, false, false, false, false, false, false] rfl rfl (one_of HT_.out (by kernel_rfl)) (by decide) (fun K hK => ?_)
   refine goes_ Try.func83 (by kernel_rfl) rfl #[.agg #[.slice A0_0 l0_0.length c0_0, .slice A0_1 l0_1.length c0_1], .slice A1 l1.length c1, .slice Ao13 t882.length co13] (by rfl) rfl rfl (by (try simp only [List.map_toArray, List.map_cons, List.map_nil]); first | done | rfl | (simp only [List.length_drop, List.length_take]; rfl)) ?_
   with_reducible refine (selfstabref23_Config.calls _ _ l0_0 _ _ l0_1 _ _ l1 _ _ t882 true _ ?side1 ?side2 ?side3 ?side4 ?side5 ?side6 ?side7 ?side8 A6.out).mono ?_
   (case side1 => repeat (first | exact (Kd.C_below HR0_0.out HB.out) | (with_reducible refine Kd.C_alloc ?_ _) | (with_reducible refine Kd.C_drewN ?_ _) | (with_reducible refine Kd.C_drew ?_)))
   (case side2 => exact HC0_0.out)
   (case side3 => repeat (first | exact (Kd.C_below HR0_1.out HB.out) | (with_reducible refine Kd.C_alloc ?_ _) | (with_reducible refine Kd.C_drewN ?_ _) | (with_reducible refine Kd.C_drew ?_)))
   (case side4 => exact HC0_1.out)
   (case side5 => repeat (first | exact (Kd.C_below HR1.out HB.out) | (with_reducible refine Kd.C_alloc ?_ _) | (with_reducible refine Kd.C_drewN ?_ _) | (with_reducible refine Kd.C_drew ?_)))
   (case side6 => exact HC1.out)
   (case side7 => repeat (first | exact (Kd.R_reads' HO884.out).2.2 | (with_reducible refine Kd.C_alloc ?_ _) | (with_reducible refine Kd.C_drewN ?_ _) | (with_reducible refine Kd.C_drew ?_)))
   (case side8 => exact (Kd.R_reads' HO884.out).2.1)
   rintro e w14 ⟨rfl, hb⟩
   refine ⟨_, rfl, ?_⟩
   have n0_ := Aside0.mk (Kd.R_below (by (with_reducible repeat (first | apply Kd.R_alloc | apply Kd.R_drewN | apply Kd.R_drew)); exact HO884.out) hb)
   have n1_ := Aside0.mk (blk_below (g := gb880) (o := .cells #[.slice A0_0 l0_0.length c0_0, .slice A0_1 l0_1.length c0_1] 27 (0, 0)) (by (with_reducible repeat (first | refine blk_drewN ?_ _ | refine blk_drew ?_ | refine blk_alloc ?_ _)); exact BK880.out) hb)
   have n2_ := Aside0.mk (below_step (by repeat (first | (with_reducible first | exact HB.out | apply below_alloc | apply pw_below_drewN | apply below_drew1 | refine below_set ?_ GE880.out) | exact HB.out)) hb)
   clear HO884
   clear BK880
   clear HB
   have HO884 := n0_
   have BK880 := n1_
   have HB := n2_
   clear n0_ n1_ n2_
   (try clear hb)
   (try clear hb2)
   (try clear hk)
   (try clear hi)
   refine hK.out _ _ ⟨(blk_cell BK880.out 0).trans rfl, (blk_cell BK880.out 1).trans rfl⟩ (fun hHeld => ?_)
   clear hK K
   refine norm_ (a' := ?_) ?_ ?_
   rotate_left
   ·
    show Act.put _ (some 11) _ = _
    simp only [Act.put, List.setIfInBounds_toArray, List.set_cons_zero, List.set_cons_succ, i64_w, i32_w]
    rfl
   refine pure_ (i := 7) (N := some 12) (v := ?_) (a' := ?_) #[true, true, true, true, true, true, true, true, false, false, false, false, false, false] rfl rfl (any_of HT_.out (by kernel_rfl)) (fun _ _ _ h => h) (Or.inl ⟨by rfl, ?_⟩) ?_ ?_
   rotate_left
   ·
    intro w'
    go_simp
    with_reducible rfl
   rotate_left
   ·
    simp only [Act.put, List.setIfInBounds_toArray, List.set_cons_zero, List.set_cons_succ, i64_w, i32_w]
    rfl
   refine pure_ (i := 8) (N := some 13) (v := ?_) (a' := ?_) #[true, true, true, true, true, true, true, true, true, false, false, false, false, false] rfl rfl (any_of HT_.out (by kernel_rfl)) (fun _ _ _ h => h) (Or.inl ⟨by rfl, ?_⟩) ?_ ?_
   rotate_left
   ·
    intro w'
    go_simp
    with_reducible rfl
   rotate_left
   ·
    simp only [Act.put, List.setIfInBounds_toArray, List.set_cons_zero, List.set_cons_succ, i64_w, i32_w]
    rfl
   refine pure_ (i := 10) (N := some 15) (v := ?_) (a' := ?_) #[true, true, true, true, true, true, true, true, true, false, true, false, false, false] rfl rfl (any_of HT_.out (by kernel_rfl)) (fun _ _ _ h => h) (Or.inl ⟨by rfl, ?_⟩) ?_ ?_
   rotate_left
   ·
    intro w'
    go_simp
    with_reducible rfl
   rotate_left
   ·
    simp only [Act.put, List.setIfInBounds_toArray, List.set_cons_zero, List.set_cons_succ, i64_w, i32_w]
    rfl
   refine take_ (i := 9) (N := some 14) (v := ?_) (a' := ?_) #[true, true, true, true, true, true, true, true, true, true, true, false, false, false] rfl rfl (take_ofW HT_.out HW_.out (by kernel_rfl)) (fun _ _ _ h => h) (Or.inl ⟨by rfl, ?_⟩) hHeld ?_ ?_
   rotate_left
   ·
    rintro w' ⟨s0, s1⟩
    go_simp
    with_reducible rfl
   rotate_left
   ·
    simp only [Act.put, List.setIfInBounds_toArray, List.set_cons_zero, List.set_cons_succ, i64_w, i32_w]
    rfl
   refine one_ (i := 11) (N := some 16) #[true, true, true, true, true, true, true, true, true, true, true, true, false, false] rfl rfl (one_of HT_.out (by kernel_rfl)) (by decide) (fun K hK => ?_)
   refine goes_ Try.func109 (by kernel_rfl) rfl #[.agg #[.slice A0_0 l0_0.length c0_0, .slice A0_1 l0_1.length c0_1], .slice A1 l1.length c1, .int .i64 0] (by rfl) rfl rfl (by (try simp only [List.map_toArray, List.map_cons, List.map_nil]); first | done | rfl | (simp only [List.length_drop, List.length_take]; rfl)) ?_
   with_reducible refine (selfstabref27_Exact.calls k _ _ l0_0 _ _ l0_1 _ _ l1 0 t886 _ ?side1 ?side2 ?side3 ?side4 ?side5 ?side6 A8.out).mono ?_
   (case side1 => repeat (first | exact (Kd.C_below HR0_0.out HB.out) | (with_reducible refine Kd.C_alloc ?_ _) | (with_reducible refine Kd.C_drewN ?_ _) | (with_reducible refine Kd.C_drew ?_)))
   (case side2 => exact HC0_0.out)
   (case side3 => repeat (first | exact (Kd.C_below HR0_1.out HB.out) | (with_reducible refine Kd.C_alloc ?_ _) | (with_reducible refine Kd.C_drewN ?_ _) | (with_reducible refine Kd.C_drew ?_)))
   (case side4 => exact HC0_1.out)
   (case side5 => repeat (first | exact (Kd.C_below HR1.out HB.out) | (with_reducible refine Kd.C_alloc ?_ _) | (with_reducible refine Kd.C_drewN ?_ _) | (with_reducible refine Kd.C_drew ?_)))
   (case side6 => exact HC1.out)
   rintro e w15 ⟨rfl, hb⟩
   refine ⟨_, rfl, ?_⟩
   have n0_ := Aside0.mk (Kd.R_below (by (with_reducible repeat (first | apply Kd.R_alloc | apply Kd.R_drewN | apply Kd.R_drew)); exact HO884.out) hb)
   have n1_ := Aside0.mk (blk_below (g := gb880) (o := .cells #[.slice A0_0 l0_0.length c0_0, .slice A0_1 l0_1.length c0_1] 27 (0, 0)) (by (with_reducible repeat (first | refine blk_drewN ?_ _ | refine blk_drew ?_ | refine blk_alloc ?_ _)); exact BK880.out) hb)
   have n2_ := Aside0.mk (below_step (by repeat (first | (with_reducible first | exact HB.out | apply below_alloc | apply pw_below_drewN | apply below_drew1 | refine below_set ?_ GE880.out) | exact HB.out)) hb)
   clear HO884
   clear BK880
   clear HB
   have HO884 := n0_
   have BK880 := n1_
   have HB := n2_
   clear n0_ n1_ n2_
   (try clear hb)
   (try clear hb2)
   (try clear hk)
   (try clear hi)
   refine hK.out _ _ ⟨(blk_cell BK880.out 0).trans rfl, (blk_cell BK880.out 1).trans rfl⟩ (fun hHeld => ?_)
   clear hK K
   refine norm_ (a' := ?_) ?_ ?_
   rotate_left
   ·
    show Act.put _ (some 16) _ = _
    simp only [Act.put, List.setIfInBounds_toArray, List.set_cons_zero, List.set_cons_succ, i64_w, i32_w]
    rfl
   refine pure_ (i := 12) (N := some 17) (v := ?_) (a' := ?_) #[true, true, true, true, true, true, true, true, true, true, true, true, true, false] rfl rfl (any_of HT_.out (by kernel_rfl)) (fun _ _ _ h => h) (Or.inl ⟨by rfl, ?_⟩) ?_ ?_
   rotate_left
   ·
    intro w'
    go_simp
    with_reducible rfl
   rotate_left
   ·
    simp only [Act.put, List.setIfInBounds_toArray, List.set_cons_zero, List.set_cons_succ, i64_w, i32_w]
    rfl
   refine pure_ (i := 13) (N := some 4) (v := ?_) (a' := ?_) #[true, true, true, true, true, true, true, true, true, true, true, true, true, true] rfl rfl (any_of HT_.out (by kernel_rfl)) (fun _ _ _ h => h) (Or.inl ⟨by rfl, ?_⟩) ?_ ?_
   rotate_left
   ·
    intro w'
    go_simp
    with_reducible rfl
   rotate_left
   ·
    simp only [Act.put, List.setIfInBounds_toArray, List.set_cons_zero, List.set_cons_succ, i64_w, i32_w]
    rfl
   refine done_ (done_of HT_.out (by kernel_rfl)) ?_
   try go_wp2
   go_ret
   exact ⟨by first | rfl | (simp [errW_none, errW_some] <;> rfl) | (simp [*, errW_none, errW_some] <;> rfl), by repeat (first | (with_reducible first | exact HB.out | apply below_alloc | apply pw_below_drewN | apply below_drew1 | refine below_set ?_ GE880.out) | exact HB.out)⟩
  ·
   replace c7 := Bool.eq_false_iff.mpr c7
   subst c7
   have H1 : (some false) = some r := by rw [if_neg (show ¬ (false = true) by decide)] at H; exact H
   clear H
   have H := H1
   clear H1
   obtain rfl := Option.some.inj H
   go_enter Try.func62, Try.ntmps62
   try go_wp2_with (first | ((with_reducible refine gate_dst (N := 2) rfl ?_); refine box_event ?hg (N := 2) ?hd (cs := #[.slice A0_0 l0_0.length c0_0, .slice A0_1 l0_1.length c0_1]) (t := 27) ?hr ?_; (case hd => rfl); (case hg => rfl); (case hr => first | (go_simp; done) | (go_simp; rfl)); intro gb880 hg w16 hbox hb; have n0_ := Aside0.mk (below_step (by repeat (first | (with_reducible first | exact HB.out | apply below_alloc | apply pw_below_drewN | apply below_drew1) | exact HB.out)) hb); have n1_ := Aside0.mk (hbox); have n2_ := Aside0.mk ((by rw [hg]; exact (below_size (by repeat (first | (with_reducible first | exact HB.out | apply below_alloc | apply pw_below_drewN | apply below_drew1) | exact HB.out))) : w.heap.size ≤ gb880)); have n3_ := Aside0.mk ((by rw [hg]; exact (below_size (by repeat (first | (with_reducible first | exact HB.out | apply below_alloc | apply pw_below_drewN | apply below_drew1) | exact HB.out))) : w.heap.size ≤ gb880)); clear HB; have HB := n0_; have BK880 := n1_; have GW880 := n2_; have GE880 := n3_; clear n0_ n1_ n2_ n3_; clear hb hbox hg))
   have n0_ := Aside0.mk (blk_drew BK880.out)
   have n1_ := Aside0.mk (below_drew1 HB.out)
   clear BK880
   clear HB
   have BK880 := n0_
   have HB := n1_
   clear n0_ n1_
   refine start_ (n := 14) (S := fun w' => w'.cell? ⟨gb880, 0, none⟩ = some (.slice A0_0 l0_0.length c0_0) ∧ w'.cell? ⟨gb880, 1, none⟩ = some (.slice A0_1 l0_1.length c0_1)) (ds := []) #[false, false, false, false, false, false, false, false, false, false, false, false, false, false] (by kernel_rfl) rfl rfl ⟨(blk_cell BK880.out 0).trans rfl, (blk_cell BK880.out 1).trans rfl⟩ (fun hHeld => ?_); refine with_tabW selfstabref27_Legit.tab1 selfstabref27_Legit.bits1 (fun HT_ HW_ => ?_)
   generalize w16.drew = w17 at BK880 HB hHeld ⊢
   refine take_ (i := 0) (N := some 5) (v := ?_) (a' := ?_) #[true, false, false, false, false, false, false, false, false, false, false, false, false, false] rfl rfl (take_ofW HT_.out HW_.out (by kernel_rfl)) (fun _ _ _ h => h) (Or.inl ⟨by rfl, ?_⟩) hHeld ?_ ?_
   rotate_left
   ·
    rintro w' ⟨s0, s1⟩
    go_simp
    with_reducible rfl
   rotate_left
   ·
    simp only [Act.put, List.setIfInBounds_toArray, List.set_cons_zero, List.set_cons_succ, i64_w, i32_w]
    rfl
   refine one_ (i := 1) (N := some 6) #[true, true, false, false, false, false, false, false, false, false, false, false, false, false] rfl rfl (one_of HT_.out (by kernel_rfl)) (by decide) (fun K hK => ?_)
   refine goes_ Try.func60 (by kernel_rfl) rfl #[.agg #[.slice A0_0 l0_0.length c0_0, .slice A0_1 l0_1.length c0_1]] (by rfl) rfl rfl (by (try simp only [List.map_toArray, List.map_cons, List.map_nil]); first | done | rfl | (simp only [List.length_drop, List.length_take]; rfl)) ?_
   with_reducible refine (selfstabref27_Fit.calls k _ _ l0_0 _ _ l0_1 true _ ?side1 ?side2 ?side3 ?side4 A3.out).mono ?_
   (case side1 => repeat (first | exact (Kd.C_below HR0_0.out HB.out) | (with_reducible refine Kd.C_alloc ?_ _) | (with_reducible refine Kd.C_drewN ?_ _) | (with_reducible refine Kd.C_drew ?_)))
   (case side2 => exact HC0_0.out)
   (case side3 => repeat (first | exact (Kd.C_below HR0_1.out HB.out) | (with_reducible refine Kd.C_alloc ?_ _) | (with_reducible refine Kd.C_drewN ?_ _) | (with_reducible refine Kd.C_drew ?_)))
   (case side4 => exact HC0_1.out)
   rintro e w18 ⟨rfl, hb⟩
   refine ⟨_, rfl, ?_⟩
   have n0_ := Aside0.mk (blk_below (g := gb880) (o := .cells #[.slice A0_0 l0_0.length c0_0, .slice A0_1 l0_1.length c0_1] 27 (0, 0)) (by (with_reducible repeat (first | refine blk_drewN ?_ _ | refine blk_drew ?_ | refine blk_alloc ?_ _)); exact BK880.out) hb)
   have n1_ := Aside0.mk (below_step (by repeat (first | (with_reducible first | exact HB.out | apply below_alloc | apply pw_below_drewN | apply below_drew1 | refine below_set ?_ GE880.out) | exact HB.out)) hb)
   clear BK880
   clear HB
   have BK880 := n0_
   have HB := n1_
   clear n0_ n1_
   (try clear hb)
   (try clear hb2)
   (try clear hk)
   (try clear hi)
   refine hK.out _ _ ⟨(blk_cell BK880.out 0).trans rfl, (blk_cell BK880.out 1).trans rfl⟩ (fun hHeld => ?_)
   clear hK K
   refine norm_ (a' := ?_) ?_ ?_
   rotate_left
   ·
    show Act.put _ (some 6) _ = _
    simp only [Act.put, List.setIfInBounds_toArray, List.set_cons_zero, List.set_cons_succ, i64_w, i32_w]
    rfl
   refine pure_ (i := 2) (N := some 7) (v := ?_) (a' := ?_) #[true, true, true, false, false, false, false, false, false, false, false, false, false, false] rfl rfl (any_of HT_.out (by kernel_rfl)) (fun _ _ _ h => h) (Or.inl ⟨by rfl, ?_⟩) ?_ ?_
   rotate_left
   ·
    intro w'
    go_simp
    with_reducible rfl
   rotate_left
   ·
    simp only [Act.put, List.setIfInBounds_toArray, List.set_cons_zero, List.set_cons_succ, i64_w, i32_w]
    rfl
   refine pure_ (i := 4) (N := some 9) (v := ?_) (a' := ?_) #[true, true, true, false, true, false, false, false, false, false, false, false, false, false] rfl rfl (any_of HT_.out (by kernel_rfl)) (fun _ _ _ h => h) (Or.inl ⟨by rfl, ?_⟩) ?_ ?_
   rotate_left
   ·
    intro w'
    go_simp
    with_reducible rfl
   rotate_left
   ·
    simp only [Act.put, List.setIfInBounds_toArray, List.set_cons_zero, List.set_cons_succ, i64_w, i32_w]
    rfl
   refine take_ (i := 3) (N := some 8) (v := ?_) (a' := ?_) #[true, true, true, true, true, false, false, false, false, false, false, false, false, false] rfl rfl (take_ofW HT_.out HW_.out (by kernel_rfl)) (fun _ _ _ h => h) (Or.inl ⟨by rfl, ?_⟩) hHeld ?_ ?_
   rotate_left
   ·
    rintro w' ⟨s0, s1⟩
    go_simp
    with_reducible rfl
   rotate_left
   ·
    simp only [Act.put, List.setIfInBounds_toArray, List.set_cons_zero, List.set_cons_succ, i64_w, i32_w]
    rfl
   refine one_ (i := 5) (N := some 10) #[true, true, true, true, true, true, false, false, false, false, false, false, false, false] rfl rfl (one_of HT_.out (by kernel_rfl)) (by decide) (fun K hK => ?_)
   refine goes_ Try.func108 (by kernel_rfl) rfl #[] (by rfl) rfl rfl (by (try simp only [List.map_toArray, List.map_cons, List.map_nil]); first | done | rfl | (simp only [List.length_drop, List.length_take]; rfl)) ?_
   with_reducible refine (selfstabref27_Vars.calls  t882 _ A5.out).mono ?_
   rintro e w19 ⟨v883, rfl, ho0, hb⟩
   refine ⟨_, rfl, ?_⟩
   have n0_ := Aside0.mk (Kd.R_lower ho0 (below_size (by repeat (first | (with_reducible first | exact HB.out | apply below_alloc | apply pw_below_drewN | apply below_drew1 | refine below_set ?_ GE880.out) | exact HB.out))))
   have n1_ := Aside0.mk (blk_below (g := gb880) (o := .cells #[.slice A0_0 l0_0.length c0_0, .slice A0_1 l0_1.length c0_1] 27 (0, 0)) (by (with_reducible repeat (first | refine blk_drewN ?_ _ | refine blk_drew ?_ | refine blk_alloc ?_ _)); exact BK880.out) hb)
   have n2_ := Aside0.mk (below_step (by repeat (first | (with_reducible first | exact HB.out | apply below_alloc | apply pw_below_drewN | apply below_drew1 | refine below_set ?_ GE880.out) | exact HB.out)) hb)
   clear BK880
   clear HB
   have HO884 := n0_
   have BK880 := n1_
   have HB := n2_
   clear n0_ n1_ n2_
   (try clear hb)
   (try clear hb2)
   (try clear hk)
   (try clear hi)
   (try clear ho0)
   obtain ⟨Ao20, co20, eo20⟩ := Kd.R_slice HO884.out
   (first | subst eo20 | (injection eo20 with f1_ f2_ f3_; have f4_ := f1_.symm; have f5_ := f3_.symm; clear f1_ f2_ f3_; subst f4_; subst f5_))
   refine hK.out _ _ ⟨(blk_cell BK880.out 0).trans rfl, (blk_cell BK880.out 1).trans rfl⟩ (fun hHeld => ?_)
   clear hK K
   refine norm_ (a' := ?_) ?_ ?_
   rotate_left
   ·
    show Act.put _ (some 10) _ = _
    simp only [Act.put, List.setIfInBounds_toArray, List.set_cons_zero, List.set_cons_succ, i64_w, i32_w]
    rfl
   refine one_ (i := 6) (N := some 11) #[true, true, true, true, true, true, true, false, false, false, false, false, false, false] rfl rfl (one_of HT_.out (by kernel_rfl)) (by decide) (fun K hK => ?_)
   refine goes_ Try.func83 (by kernel_rfl) rfl #[.agg #[.slice A0_0 l0_0.length c0_0, .slice A0_1 l0_1.length c0_1], .slice A1 l1.length c1, .slice Ao20 t882.length co20] (by rfl) rfl rfl (by (try simp only [List.map_toArray, List.map_cons, List.map_nil]); first | done | rfl | (simp only [List.length_drop, List.length_take]; rfl)) ?_
   with_reducible refine (selfstabref23_Config.calls _ _ l0_0 _ _ l0_1 _ _ l1 _ _ t882 false _ ?side1 ?side2 ?side3 ?side4 ?side5 ?side6 ?side7 ?side8 A6.out).mono ?_
   (case side1 => repeat (first | exact (Kd.C_below HR0_0.out HB.out) | (with_reducible refine Kd.C_alloc ?_ _) | (with_reducible refine Kd.C_drewN ?_ _) | (with_reducible refine Kd.C_drew ?_)))
   (case side2 => exact HC0_0.out)
   (case side3 => repeat (first | exact (Kd.C_below HR0_1.out HB.out) | (with_reducible refine Kd.C_alloc ?_ _) | (with_reducible refine Kd.C_drewN ?_ _) | (with_reducible refine Kd.C_drew ?_)))
   (case side4 => exact HC0_1.out)
   (case side5 => repeat (first | exact (Kd.C_below HR1.out HB.out) | (with_reducible refine Kd.C_alloc ?_ _) | (with_reducible refine Kd.C_drewN ?_ _) | (with_reducible refine Kd.C_drew ?_)))
   (case side6 => exact HC1.out)
   (case side7 => repeat (first | exact (Kd.R_reads' HO884.out).2.2 | (with_reducible refine Kd.C_alloc ?_ _) | (with_reducible refine Kd.C_drewN ?_ _) | (with_reducible refine Kd.C_drew ?_)))
   (case side8 => exact (Kd.R_reads' HO884.out).2.1)
   rintro e w21 ⟨rfl, hb⟩
   refine ⟨_, rfl, ?_⟩
   have n0_ := Aside0.mk (Kd.R_below (by (with_reducible repeat (first | apply Kd.R_alloc | apply Kd.R_drewN | apply Kd.R_drew)); exact HO884.out) hb)
   have n1_ := Aside0.mk (blk_below (g := gb880) (o := .cells #[.slice A0_0 l0_0.length c0_0, .slice A0_1 l0_1.length c0_1] 27 (0, 0)) (by (with_reducible repeat (first | refine blk_drewN ?_ _ | refine blk_drew ?_ | refine blk_alloc ?_ _)); exact BK880.out) hb)
   have n2_ := Aside0.mk (below_step (by repeat (first | (with_reducible first | exact HB.out | apply below_alloc | apply pw_below_drewN | apply below_drew1 | refine below_set ?_ GE880.out) | exact HB.out)) hb)
   clear HO884
   clear BK880
   clear HB
   have HO884 := n0_
   have BK880 := n1_
   have HB := n2_
   clear n0_ n1_ n2_
   (try clear hb)
   (try clear hb2)
   (try clear hk)
   (try clear hi)
   refine hK.out _ _ ⟨(blk_cell BK880.out 0).trans rfl, (blk_cell BK880.out 1).trans rfl⟩ (fun hHeld => ?_)
   clear hK K
   refine norm_ (a' := ?_) ?_ ?_
   rotate_left
   ·
    show Act.put _ (some 11) _ = _
    simp only [Act.put, List.setIfInBounds_toArray, List.set_cons_zero, List.set_cons_succ, i64_w, i32_w]
    rfl
   refine pure_ (i := 7) (N := some 12) (v := ?_) (a' := ?_) #[true, true, true, true, true, true, true, true, false, false, false, false, false, false] rfl rfl (any_of HT_.out (by kernel_rfl)) (fun _ _ _ h => h) (Or.inl ⟨by rfl, ?_⟩) ?_ ?_
   rotate_left
   ·
    intro w'
    go_simp
    with_reducible rfl
   rotate_left
   ·
    simp only [Act.put, List.setIfInBounds_toArray, List.set_cons_zero, List.set_cons_succ, i64_w, i32_w]
    rfl
   refine pure_ (i := 8) (N := some 13) (v := ?_) (a' := ?_) #[true, true, true, true, true, true, true, true, true, false, false, false, false, false] rfl rfl (any_of HT_.out (by kernel_rfl)) (fun _ _ _ h => h) (Or.inl ⟨by rfl, ?_⟩) ?_ ?_
   rotate_left
   ·
    intro w'
    go_simp
    with_reducible rfl
   rotate_left
   ·
    simp only [Act.put, List.setIfInBounds_toArray, List.set_cons_zero, List.set_cons_succ, i64_w, i32_w]
    rfl
   refine pure_ (i := 9) (N := some 14) (v := undef) (a' := ?_) #[true, true, true, true, true, true, true, true, true, true, false, false, false, false] rfl rfl (any_of HT_.out (by kernel_rfl)) (fun _ _ _ h => h) (Or.inr ⟨by rfl, rfl⟩) ?_ ?_
   rotate_left
   ·
    simp only [Act.put, List.setIfInBounds_toArray, List.set_cons_zero, List.set_cons_succ, i64_w, i32_w]
    rfl
   refine pure_ (i := 10) (N := some 15) (v := undef) (a' := ?_) #[true, true, true, true, true, true, true, true, true, true, true, false, false, false] rfl rfl (any_of HT_.out (by kernel_rfl)) (fun _ _ _ h => h) (Or.inr ⟨by rfl, rfl⟩) ?_ ?_
   rotate_left
   ·
    simp only [Act.put, List.setIfInBounds_toArray, List.set_cons_zero, List.set_cons_succ, i64_w, i32_w]
    rfl
   refine pure_ (i := 11) (N := some 16) (v := undef) (a' := ?_) #[true, true, true, true, true, true, true, true, true, true, true, true, false, false] rfl rfl (any_of HT_.out (by kernel_rfl)) (fun _ _ _ h => h) (Or.inr ⟨by rfl, rfl⟩) ?_ ?_
   rotate_left
   ·
    simp only [Act.put, List.setIfInBounds_toArray, List.set_cons_zero, List.set_cons_succ, i64_w, i32_w]
    rfl
   refine pure_ (i := 12) (N := some 17) (v := ?_) (a' := ?_) #[true, true, true, true, true, true, true, true, true, true, true, true, true, false] rfl rfl (any_of HT_.out (by kernel_rfl)) (fun _ _ _ h => h) (Or.inl ⟨by rfl, ?_⟩) ?_ ?_
   rotate_left
   ·
    intro w'
    go_simp
    with_reducible rfl
   rotate_left
   ·
    simp only [Act.put, List.setIfInBounds_toArray, List.set_cons_zero, List.set_cons_succ, i64_w, i32_w]
    rfl
   refine pure_ (i := 13) (N := some 4) (v := ?_) (a' := ?_) #[true, true, true, true, true, true, true, true, true, true, true, true, true, true] rfl rfl (any_of HT_.out (by kernel_rfl)) (fun _ _ _ h => h) (Or.inl ⟨by rfl, ?_⟩) ?_ ?_
   rotate_left
   ·
    intro w'
    go_simp
    with_reducible rfl
   rotate_left
   ·
    simp only [Act.put, List.setIfInBounds_toArray, List.set_cons_zero, List.set_cons_succ, i64_w, i32_w]
    rfl
   refine done_ (done_of HT_.out (by kernel_rfl)) ?_
   try go_wp2
   go_ret
   exact ⟨by first | rfl | (simp [errW_none, errW_some] <;> rfl) | (simp [*, errW_none, errW_some] <;> rfl), by repeat (first | (with_reducible first | exact HB.out | apply below_alloc | apply pw_below_drewN | apply below_drew1 | refine below_set ?_ GE880.out) | exact HB.out)⟩
 ·
  replace c4 := Bool.eq_false_iff.mpr c4
  subst c4
  have H1 : (some false) = some r := by rw [if_neg (show ¬ (false = true) by decide)] at H; exact H
  clear H
  have H := H1
  clear H1
  obtain rfl := Option.some.inj H
  go_enter Try.func62, Try.ntmps62
  try go_wp2_with (first | ((with_reducible refine gate_dst (N := 2) rfl ?_); refine box_event ?hg (N := 2) ?hd (cs := #[.slice A0_0 l0_0.length c0_0, .slice A0_1 l0_1.length c0_1]) (t := 27) ?hr ?_; (case hd => rfl); (case hg => rfl); (case hr => first | (go_simp; done) | (go_simp; rfl)); intro gb880 hg w22 hbox hb; have n0_ := Aside0.mk (below_step (by repeat (first | (with_reducible first | exact HB.out | apply below_alloc | apply pw_below_drewN | apply below_drew1) | exact HB.out)) hb); have n1_ := Aside0.mk (hbox); have n2_ := Aside0.mk ((by rw [hg]; exact (below_size (by repeat (first | (with_reducible first | exact HB.out | apply below_alloc | apply pw_below_drewN | apply below_drew1) | exact HB.out))) : w.heap.size ≤ gb880)); have n3_ := Aside0.mk ((by rw [hg]; exact (below_size (by repeat (first | (with_reducible first | exact HB.out | apply below_alloc | apply pw_below_drewN | apply below_drew1) | exact HB.out))) : w.heap.size ≤ gb880)); clear HB; have HB := n0_; have BK880 := n1_; have GW880 := n2_; have GE880 := n3_; clear n0_ n1_ n2_ n3_; clear hb hbox hg))
  have n0_ := Aside0.mk (blk_drew BK880.out)
  have n1_ := Aside0.mk (below_drew1 HB.out)
  clear BK880
  clear HB
  have BK880 := n0_
  have HB := n1_
  clear n0_ n1_
  refine start_ (n := 14) (S := fun w' => w'.cell? ⟨gb880, 0, none⟩ = some (.slice A0_0 l0_0.length c0_0) ∧ w'.cell? ⟨gb880, 1, none⟩ = some (.slice A0_1 l0_1.length c0_1)) (ds := []) #[false, false, false, false, false, false, false, false, false, false, false, false, false, false] (by kernel_rfl) rfl rfl ⟨(blk_cell BK880.out 0).trans rfl, (blk_cell BK880.out 1).trans rfl⟩ (fun hHeld => ?_); refine with_tabW selfstabref27_Legit.tab1 selfstabref27_Legit.bits1 (fun HT_ HW_ => ?_)
  generalize w22.drew = w23 at BK880 HB hHeld ⊢
  refine take_ (i := 0) (N := some 5) (v := ?_) (a' := ?_) #[true, false, false, false, false, false, false, false, false, false, false, false, false, false] rfl rfl (take_ofW HT_.out HW_.out (by kernel_rfl)) (fun _ _ _ h => h) (Or.inl ⟨by rfl, ?_⟩) hHeld ?_ ?_
  rotate_left
  ·
   rintro w' ⟨s0, s1⟩
   go_simp
   with_reducible rfl
  rotate_left
  ·
   simp only [Act.put, List.setIfInBounds_toArray, List.set_cons_zero, List.set_cons_succ, i64_w, i32_w]
   rfl
  refine one_ (i := 1) (N := some 6) #[true, true, false, false, false, false, false, false, false, false, false, false, false, false] rfl rfl (one_of HT_.out (by kernel_rfl)) (by decide) (fun K hK => ?_)
  refine goes_ Try.func60 (by kernel_rfl) rfl #[.agg #[.slice A0_0 l0_0.length c0_0, .slice A0_1 l0_1.length c0_1]] (by rfl) rfl rfl (by (try simp only [List.map_toArray, List.map_cons, List.map_nil]); first | done | rfl | (simp only [List.length_drop, List.length_take]; rfl)) ?_
  with_reducible refine (selfstabref27_Fit.calls k _ _ l0_0 _ _ l0_1 false _ ?side1 ?side2 ?side3 ?side4 A3.out).mono ?_
  (case side1 => repeat (first | exact (Kd.C_below HR0_0.out HB.out) | (with_reducible refine Kd.C_alloc ?_ _) | (with_reducible refine Kd.C_drewN ?_ _) | (with_reducible refine Kd.C_drew ?_)))
  (case side2 => exact HC0_0.out)
  (case side3 => repeat (first | exact (Kd.C_below HR0_1.out HB.out) | (with_reducible refine Kd.C_alloc ?_ _) | (with_reducible refine Kd.C_drewN ?_ _) | (with_reducible refine Kd.C_drew ?_)))
  (case side4 => exact HC0_1.out)
  rintro e w24 ⟨rfl, hb⟩
  refine ⟨_, rfl, ?_⟩
  have n0_ := Aside0.mk (blk_below (g := gb880) (o := .cells #[.slice A0_0 l0_0.length c0_0, .slice A0_1 l0_1.length c0_1] 27 (0, 0)) (by (with_reducible repeat (first | refine blk_drewN ?_ _ | refine blk_drew ?_ | refine blk_alloc ?_ _)); exact BK880.out) hb)
  have n1_ := Aside0.mk (below_step (by repeat (first | (with_reducible first | exact HB.out | apply below_alloc | apply pw_below_drewN | apply below_drew1 | refine below_set ?_ GE880.out) | exact HB.out)) hb)
  clear BK880
  clear HB
  have BK880 := n0_
  have HB := n1_
  clear n0_ n1_
  (try clear hb)
  (try clear hb2)
  (try clear hk)
  (try clear hi)
  refine hK.out _ _ ⟨(blk_cell BK880.out 0).trans rfl, (blk_cell BK880.out 1).trans rfl⟩ (fun hHeld => ?_)
  clear hK K
  refine norm_ (a' := ?_) ?_ ?_
  rotate_left
  ·
   show Act.put _ (some 6) _ = _
   simp only [Act.put, List.setIfInBounds_toArray, List.set_cons_zero, List.set_cons_succ, i64_w, i32_w]
   rfl
  refine pure_ (i := 2) (N := some 7) (v := ?_) (a' := ?_) #[true, true, true, false, false, false, false, false, false, false, false, false, false, false] rfl rfl (any_of HT_.out (by kernel_rfl)) (fun _ _ _ h => h) (Or.inl ⟨by rfl, ?_⟩) ?_ ?_
  rotate_left
  ·
   intro w'
   go_simp
   with_reducible rfl
  rotate_left
  ·
   simp only [Act.put, List.setIfInBounds_toArray, List.set_cons_zero, List.set_cons_succ, i64_w, i32_w]
   rfl
  refine pure_ (i := 3) (N := some 8) (v := undef) (a' := ?_) #[true, true, true, true, false, false, false, false, false, false, false, false, false, false] rfl rfl (any_of HT_.out (by kernel_rfl)) (fun _ _ _ h => h) (Or.inr ⟨by rfl, rfl⟩) ?_ ?_
  rotate_left
  ·
   simp only [Act.put, List.setIfInBounds_toArray, List.set_cons_zero, List.set_cons_succ, i64_w, i32_w]
   rfl
  refine pure_ (i := 4) (N := some 9) (v := undef) (a' := ?_) #[true, true, true, true, true, false, false, false, false, false, false, false, false, false] rfl rfl (any_of HT_.out (by kernel_rfl)) (fun _ _ _ h => h) (Or.inr ⟨by rfl, rfl⟩) ?_ ?_
  rotate_left
  ·
   simp only [Act.put, List.setIfInBounds_toArray, List.set_cons_zero, List.set_cons_succ, i64_w, i32_w]
   rfl
  refine pure_ (i := 5) (N := some 10) (v := undef) (a' := ?_) #[true, true, true, true, true, true, false, false, false, false, false, false, false, false] rfl rfl (any_of HT_.out (by kernel_rfl)) (fun _ _ _ h => h) (Or.inr ⟨by rfl, rfl⟩) ?_ ?_
  rotate_left
  ·
   simp only [Act.put, List.setIfInBounds_toArray, List.set_cons_zero, List.set_cons_succ, i64_w, i32_w]
   rfl
  refine pure_ (i := 6) (N := some 11) (v := undef) (a' := ?_) #[true, true, true, true, true, true, true, false, false, false, false, false, false, false] rfl rfl (any_of HT_.out (by kernel_rfl)) (fun _ _ _ h => h) (Or.inr ⟨by rfl, rfl⟩) ?_ ?_
  rotate_left
  ·
   simp only [Act.put, List.setIfInBounds_toArray, List.set_cons_zero, List.set_cons_succ, i64_w, i32_w]
   rfl
  refine pure_ (i := 7) (N := some 12) (v := ?_) (a' := ?_) #[true, true, true, true, true, true, true, true, false, false, false, false, false, false] rfl rfl (any_of HT_.out (by kernel_rfl)) (fun _ _ _ h => h) (Or.inl ⟨by rfl, ?_⟩) ?_ ?_
  rotate_left
  ·
   intro w'
   go_simp
   with_reducible rfl
  rotate_left
  ·
   simp only [Act.put, List.setIfInBounds_toArray, List.set_cons_zero, List.set_cons_succ, i64_w, i32_w]
   rfl
  refine pure_ (i := 8) (N := some 13) (v := ?_) (a' := ?_) #[true, true, true, true, true, true, true, true, true, false, false, false, false, false] rfl rfl (any_of HT_.out (by kernel_rfl)) (fun _ _ _ h => h) (Or.inl ⟨by rfl, ?_⟩) ?_ ?_
  rotate_left
  ·
   intro w'
   go_simp
   with_reducible rfl
  rotate_left
  ·
   simp only [Act.put, List.setIfInBounds_toArray, List.set_cons_zero, List.set_cons_succ, i64_w, i32_w]
   rfl
  refine pure_ (i := 9) (N := some 14) (v := undef) (a' := ?_) #[true, true, true, true, true, true, true, true, true, true, false, false, false, false] rfl rfl (any_of HT_.out (by kernel_rfl)) (fun _ _ _ h => h) (Or.inr ⟨by rfl, rfl⟩) ?_ ?_
  rotate_left
  ·
   simp only [Act.put, List.setIfInBounds_toArray, List.set_cons_zero, List.set_cons_succ, i64_w, i32_w]
   rfl
  refine pure_ (i := 10) (N := some 15) (v := undef) (a' := ?_) #[true, true, true, true, true, true, true, true, true, true, true, false, false, false] rfl rfl (any_of HT_.out (by kernel_rfl)) (fun _ _ _ h => h) (Or.inr ⟨by rfl, rfl⟩) ?_ ?_
  rotate_left
  ·
   simp only [Act.put, List.setIfInBounds_toArray, List.set_cons_zero, List.set_cons_succ, i64_w, i32_w]
   rfl
  refine pure_ (i := 11) (N := some 16) (v := undef) (a' := ?_) #[true, true, true, true, true, true, true, true, true, true, true, true, false, false] rfl rfl (any_of HT_.out (by kernel_rfl)) (fun _ _ _ h => h) (Or.inr ⟨by rfl, rfl⟩) ?_ ?_
  rotate_left
  ·
   simp only [Act.put, List.setIfInBounds_toArray, List.set_cons_zero, List.set_cons_succ, i64_w, i32_w]
   rfl
  refine pure_ (i := 12) (N := some 17) (v := ?_) (a' := ?_) #[true, true, true, true, true, true, true, true, true, true, true, true, true, false] rfl rfl (any_of HT_.out (by kernel_rfl)) (fun _ _ _ h => h) (Or.inl ⟨by rfl, ?_⟩) ?_ ?_
  rotate_left
  ·
   intro w'
   go_simp
   with_reducible rfl
  rotate_left
  ·
   simp only [Act.put, List.setIfInBounds_toArray, List.set_cons_zero, List.set_cons_succ, i64_w, i32_w]
   rfl
  refine pure_ (i := 13) (N := some 4) (v := ?_) (a' := ?_) #[true, true, true, true, true, true, true, true, true, true, true, true, true, true] rfl rfl (any_of HT_.out (by kernel_rfl)) (fun _ _ _ h => h) (Or.inl ⟨by rfl, ?_⟩) ?_ ?_
  rotate_left
  ·
   intro w'
   go_simp
   with_reducible rfl
  rotate_left
  ·
   simp only [Act.put, List.setIfInBounds_toArray, List.set_cons_zero, List.set_cons_succ, i64_w, i32_w]
   rfl
  refine done_ (done_of HT_.out (by kernel_rfl)) ?_
  try go_wp2
  go_ret
  exact ⟨by first | rfl | (simp [errW_none, errW_some] <;> rfl) | (simp [*, errW_none, errW_some] <;> rfl), by repeat (first | (with_reducible first | exact HB.out | apply below_alloc | apply pw_below_drewN | apply below_drew1 | refine below_set ?_ GE880.out) | exact HB.out)⟩
end Go.Proofs.YthapikakneikbaaG
namespace Go.Proofs.YthapikakneikbaaG
open Go.RowKit Go.Proofs.YthapikakneikbaaW.PrintWords Go.Proofs.YthapikakneikbaaW.PrintLast Go.Proofs.YthapikakneikbaaW.PrintMore
attribute [local go_sem] max2_int min2_int max_two min_two max_three min_three max_four min_four   -- for this text's walks alone
set_option linter.unusedVariables false
set_option linter.unusedSimpArgs false
def selfstabref01_Diameter.l0 : Nat → Int → Int → List Int → List (List (S60)) → Option (Int)
 | 0, _, _, _, _ => none
 | k + 1, x3, x4, x888000, x888001 => if x4 < (x888001.length : Int) then ((selfstabref01_Eccentricity.f k x888000 x888001 x4).bind fun t889 => (selfstabref01_Diameter.l0 k (mx x3 t889) (wrap64 (x4 + 1)) x888000 x888001)) else (some x3)
def selfstabref01_Diameter.f (k : Nat) (l0_0 : List Int) (l0_1 : List (List (S60))) : Option (Int) := (selfstabref01_Connected.f k l0_0 l0_1).bind fun t888 => (if t888 = true then (selfstabref01_Diameter.l0 k 0 0 l0_0 l0_1) else (some (-1)))
theorem selfstabref01_Diameter.mono_l : ∀ k, (∀ y0 y1 y2 y3, LeO (selfstabref01_Diameter.l0 k y0 y1 y2 y3) (selfstabref01_Diameter.l0 (k + 1) y0 y1 y2 y3))
 | 0 => fun _ _ _ _ r h => by simp [selfstabref01_Diameter.l0] at h
 | k + 1 => by
  have ih0 := selfstabref01_Diameter.mono_l k
  ·
   intro y0 y1 y2 y3
   unfold selfstabref01_Diameter.l0
   repeat' first
   | (with_reducible exact ih0 _ _ _ _)
   | (with_reducible exact selfstabref01_Connected.mono _ _ _)
   | (with_reducible exact selfstabref01_Eccentricity.mono _ _ _ _)
   | (with_reducible exact LeO.refl _)
   | (with_reducible exact LeO.none _)
   | (with_reducible refine LeO.ite ?_ ?_)
   | (with_reducible refine LeO.bind ?_ (fun _ => ?_))
   | exact ih0 _ _ _ _
   | exact selfstabref01_Connected.mono _ _ _
   | exact selfstabref01_Eccentricity.mono _ _ _ _
   | exact LeO.none _
   | refine LeO.ite ?_ ?_
   | refine LeO.bind ?_ (fun _ => ?_)
theorem selfstabref01_Diameter.mono : ∀ a0 a1 k, LeO (selfstabref01_Diameter.f k a0 a1) (selfstabref01_Diameter.f (k + 1) a0 a1) := by
 intro a0 a1 k
 have ih0 := selfstabref01_Diameter.mono_l k
 unfold selfstabref01_Diameter.f
 repeat' first
   | (with_reducible exact ih0 _ _ _ _)
   | (with_reducible exact selfstabref01_Connected.mono _ _ _)
   | (with_reducible exact selfstabref01_Eccentricity.mono _ _ _ _)
   | (with_reducible exact LeO.refl _)
   | (with_reducible exact LeO.none _)
   | (with_reducible refine LeO.ite ?_ ?_)
   | (with_reducible refine LeO.bind ?_ (fun _ => ?_))
   | exact ih0 _ _ _ _
   | exact selfstabref01_Connected.mono _ _ _
   | exact selfstabref01_Eccentricity.mono _ _ _ _
   | exact LeO.none _
   | refine LeO.ite ?_ ?_
   | refine LeO.bind ?_ (fun _ => ?_)
set_option maxHeartbeats 8000000 in
set_option maxRecDepth 100000 in
theorem selfstabref01_Diameter.calls (k : Nat) (A0_0 : Option Addr) (c0_0 : Nat) (l0_0 : List Int) (A0_1 : Option Addr) (c0_1 : Nat) (l0_1 : List (List (S60))) (r : Int) (w : World) (hr0_0 : Kd.C (Kd.int .i64) w A0_0 l0_0.length l0_0) (hc0_0 : l0_0.length ≤ c0_0) (hr0_1 : Kd.C (Kd.slice 60 k60) w A0_1 l0_1.length l0_1) (hc0_1 : l0_1.length ≤ c0_1) (h : selfstabref01_Diameter.f k l0_0 l0_1 = some r) :
  Calls Try.prog 111 #[.agg #[.slice A0_0 l0_0.length c0_0, .slice A0_1 l0_1.length c0_1]] w fun e w' => e = .returned (.int .i64 r) ∧ Below w.heap.size w w' := by
 have hu27 := Try.underlying27
 have HR0_0 := Aside0.mk hr0_0
 have HC0_0 := Aside0.mk hc0_0
 clear hr0_0 hc0_0
 have HR0_1 := Aside0.mk hr0_1
 have HC0_1 := Aside0.mk hc0_1
 clear hr0_1 hc0_1
 have HB := Aside0.mk (Below.refl w.heap.size w)
 have H : ((selfstabref01_Connected.f k l0_0 l0_1).bind fun t888 => (if t888 = true then (selfstabref01_Diameter.l0 k 0 0 l0_0 l0_1) else (some (-1)))) = some r := h
 clear h
 replace H := Option.bind_eq_some_iff.mp H
 obtain ⟨t888, A20, H⟩ := H
 replace H : (if t888 = true then (selfstabref01_Diameter.l0 k 0 0 l0_0 l0_1) else (some (-1))) = some r := H
 have A2 := Aside0.mk A20
 clear A20
 by_cases c3 : t888 = true
 ·
  subst c3
  have H1 : (selfstabref01_Diameter.l0 k 0 0 l0_0 l0_1) = some r := by rw [if_pos rfl] at H; exact H
  clear H
  have H := H1
  clear H1
  have H' := Aside0.mk H
  clear H
  go_enter Try.func111, Try.ntmps111
  go_wp2_with (first | ((with_reducible refine gate_dst (N := 1) rfl ?_); refine box_event ?hg (N := 1) ?hd (cs := #[.slice A0_0 l0_0.length c0_0, .slice A0_1 l0_1.length c0_1]) (t := 27) ?hr ?_; (case hd => rfl); (case hg => rfl); (case hr => first | (go_simp; done) | (go_simp; rfl)); intro gb887 hg w4 hbox hb; have n0_ := Aside0.mk (below_step (by repeat (first | (with_reducible first | exact HB.out | apply below_alloc | apply pw_below_drewN | apply below_drew1) | exact HB.out)) hb); have n1_ := Aside0.mk (hbox); have n2_ := Aside0.mk ((by rw [hg]; exact (below_size (by repeat (first | (with_reducible first | exact HB.out | apply below_alloc | apply pw_below_drewN | apply below_drew1) | exact HB.out))) : w.heap.size ≤ gb887)); have n3_ := Aside0.mk ((by rw [hg]; exact (below_size (by repeat (first | (with_reducible first | exact HB.out | apply below_alloc | apply pw_below_drewN | apply below_drew1) | exact HB.out))) : w.heap.size ≤ gb887)); clear HB; have HB := n0_; have BK887 := n1_; have GW887 := n2_; have GE887 := n3_; clear n0_ n1_ n2_ n3_; clear hb hbox hg; have hcz5_0 : w4.cell? ⟨gb887, 0, none⟩ = some (.slice A0_0 l0_0.length c0_0) := (blk_cell BK887.out 0).trans rfl; have hcz5_1 : w4.cell? ⟨gb887, 1, none⟩ = some (.slice A0_1 l0_1.length c0_1) := (blk_cell BK887.out 1).trans rfl; have hfz5_0 := blk_frozen BK887.out 0; have hfz5_1 := blk_frozen BK887.out 1) | ((with_reducible refine gate_callee (f := 88) rfl ?_); refine goesL_ (some 6) rfl rfl Try.func88 (by kernel_rfl) rfl #[.agg #[.slice A0_0 l0_0.length c0_0, .slice A0_1 l0_1.length c0_1]] rfl (by (try simp only [List.map_toArray, List.map_cons, List.map_nil]); first | done | rfl | (simp only [List.length_drop, List.length_take]; rfl)) ?_; (with_reducible refine (selfstabref01_Connected.calls k _ _ l0_0 _ _ l0_1 true _ ?side1 ?side2 ?side3 ?side4 A2.out).mono ?_); (case side1 => repeat (first | exact (Kd.C_below HR0_0.out HB.out) | (with_reducible refine Kd.C_alloc ?_ _) | (with_reducible refine Kd.C_drewN ?_ _) | (with_reducible refine Kd.C_drew ?_))); (case side2 => exact HC0_0.out); (case side3 => repeat (first | exact (Kd.C_below HR0_1.out HB.out) | (with_reducible refine Kd.C_alloc ?_ _) | (with_reducible refine Kd.C_drewN ?_ _) | (with_reducible refine Kd.C_drew ?_))); (case side4 => exact HC0_1.out); rintro e w6 ⟨rfl, hb⟩; refine ⟨_, rfl, ?_⟩; have n0_ := Aside0.mk (blk_below (g := gb887) (o := .cells #[.slice A0_0 l0_0.length c0_0, .slice A0_1 l0_1.length c0_1] 27 (0, 0)) (by (with_reducible repeat (first | refine blk_drewN ?_ _ | refine blk_drew ?_ | refine blk_alloc ?_ _)); exact BK887.out) hb); have n1_ := Aside0.mk (below_step (by repeat (first | (with_reducible first | exact HB.out | apply below_alloc | apply pw_below_drewN | apply below_drew1 | refine below_set ?_ GE887.out) | exact HB.out)) hb); clear BK887; clear HB; have BK887 := n0_; have HB := n1_; clear n0_ n1_; (try clear hb); (try clear hb2); (try clear hk); (try clear hi)))
  go_loopg [3, 4] k (fun kq v3 v4 w' => ∃ (x3_1 : Int) (x4_1 : Int), v3 = .int .i64 x3_1 ∧ v4 = .int .i64 x4_1 ∧ Aside0 (selfstabref01_Diameter.l0 kq x3_1 x4_1 l0_0 l0_1 = some r) ∧ Aside0 (kq ≤ k) ∧ Aside0 (w'.heap[gb887]? = some (.cells #[(.slice A0_0 l0_0.length c0_0), (.slice A0_1 l0_1.length c0_1)] 27 (0, 0))) ∧ Aside0 (Below w.heap.size w w'))
  case atStart => exact ⟨(0), (0), (by first | rfl | (simp; done) | (simp [*]; done)), (by first | rfl | (simp; done) | (simp [*]; done)), H', ⟨Nat.le_refl _⟩, ⟨by (with_reducible repeat (first | refine blk_drewN ?_ _ | refine blk_drew ?_ | refine blk_alloc ?_ _)); exact BK887.out⟩, ⟨by repeat (first | (with_reducible first | exact HB.out | apply below_alloc | apply pw_below_drewN | apply below_drew1 | refine below_set ?_ GE887.out) | exact HB.out)⟩⟩
  case round =>
   clear H'
   try clear c1
   try clear p2
   try clear c3
   try clear hcz5_0
   try clear hcz5_1
   try clear hfz5_0
   try clear hfz5_1
   obtain ⟨x3_1, x4_1, rfl, rfl, HA, HK1, BK887, HB⟩ := hrel
   cases gk with
   | zero => exact absurd HA.out (by simp [selfstabref01_Diameter.l0])
   | succ k1 =>
    have H := HA.out
    clear HA
    simp only [selfstabref01_Diameter.l0] at H
    by_cases c7 : x4_1 < (l0_1.length : Int)
    ·
     rw [if_pos c7] at H
     have c7b0 : decide (x4_1 < (l0_1.length : Int)) = true := decide_eq_true c7
     clear c7
     replace H := Option.bind_eq_some_iff.mp H
     obtain ⟨t889, A80, H⟩ := H
     replace H : (selfstabref01_Diameter.l0 k1 (mx x3_1 t889) (wrap64 (x4_1 + 1)) l0_0 l0_1) = some r := H
     have A8 := Aside0.mk A80
     clear A80
     obtain ⟨ji9, hji9⟩ : ∃ j_ : Int, (mx x3_1 t889) = j_ := ⟨_, rfl⟩
     replace H : (selfstabref01_Diameter.l0 k1 ji9 (wrap64 (x4_1 + 1)) l0_0 l0_1) = some r := by first | (rw [hji9] at H; exact H) | (simp only [hji9] at H ⊢; exact H)
     (try rw [hji9] at A8)
     have hji9_ : (if x3_1 < t889 then t889 else x3_1) = ji9 := hji9
     have H' := Aside0.mk H
     clear H
     have hcz10_0 : wr.cell? ⟨gb887, 0, none⟩ = some (.slice A0_0 l0_0.length c0_0) := (blk_cell BK887.out 0).trans rfl
     have hcz10_1 : wr.cell? ⟨gb887, 1, none⟩ = some (.slice A0_1 l0_1.length c0_1) := (blk_cell BK887.out 1).trans rfl
     have hfz10_0 := blk_frozen BK887.out 0
     have hfz10_1 := blk_frozen BK887.out 1
     go_wp2_with (first | ((with_reducible refine gate_callee (f := 95) rfl ?_); refine goesL_ (some 18) rfl rfl Try.func95 (by kernel_rfl) rfl #[.agg #[.slice A0_0 l0_0.length c0_0, .slice A0_1 l0_1.length c0_1], .int .i64 x4_1] rfl (by (try simp only [List.map_toArray, List.map_cons, List.map_nil]); first | done | rfl | (simp only [List.length_drop, List.length_take]; rfl)) ?_; (with_reducible refine (selfstabref01_Eccentricity.calls k1 _ _ l0_0 _ _ l0_1 x4_1 t889 _ ?side1 ?side2 ?side3 ?side4 A8.out).mono ?_); (case side1 => repeat (first | exact (Kd.C_below HR0_0.out HB.out) | (with_reducible refine Kd.C_alloc ?_ _) | (with_reducible refine Kd.C_drewN ?_ _) | (with_reducible refine Kd.C_drew ?_))); (case side2 => exact HC0_0.out); (case side3 => repeat (first | exact (Kd.C_below HR0_1.out HB.out) | (with_reducible refine Kd.C_alloc ?_ _) | (with_reducible refine Kd.C_drewN ?_ _) | (with_reducible refine Kd.C_drew ?_))); (case side4 => exact HC0_1.out); rintro e w11 ⟨rfl, hb⟩; refine ⟨_, rfl, ?_⟩; have n0_ := Aside0.mk (blk_below (g := gb887) (o := .cells #[.slice A0_0 l0_0.length c0_0, .slice A0_1 l0_1.length c0_1] 27 (0, 0)) (by (with_reducible repeat (first | refine blk_drewN ?_ _ | refine blk_drew ?_ | refine blk_alloc ?_ _)); exact BK887.out) hb); have n1_ := Aside0.mk (below_step (by repeat (first | (with_reducible first | exact HB.out | apply below_alloc | apply pw_below_drewN | apply below_drew1 | refine below_set ?_ GE887.out) | exact HB.out)) hb); clear BK887; clear HB; have BK887 := n0_; have HB := n1_; clear n0_ n1_; (try clear hb); (try clear hb2); (try clear hk); (try clear hi)))
     go_roundg k1
     case measure => have := HK1.out; omega
     case rel => exact ⟨(ji9), (wrap64 (x4_1 + 1)), (by first | rfl | (simp; done) | (simp only [← hji9] <;> (first | rfl | simp)) | (simp [*]; done)), (by first | rfl | (simp; done) | (simp [*]; done)), H', ⟨by have := HK1.out; omega⟩, ⟨by (with_reducible repeat (first | refine blk_drewN ?_ _ | refine blk_drew ?_ | refine blk_alloc ?_ _)); exact BK887.out⟩, ⟨by repeat (first | (with_reducible first | exact HB.out | apply below_alloc | apply pw_below_drewN | apply below_drew1 | refine below_set ?_ GE887.out) | exact HB.out)⟩⟩
    ·
     rw [if_neg c7] at H
     have c7b0 : decide (x4_1 < (l0_1.length : Int)) = false := decide_eq_false c7
     clear c7
     obtain rfl := Option.some.inj H
     have hcz12_0 : wr.cell? ⟨gb887, 0, none⟩ = some (.slice A0_0 l0_0.length c0_0) := (blk_cell BK887.out 0).trans rfl
     have hcz12_1 : wr.cell? ⟨gb887, 1, none⟩ = some (.slice A0_1 l0_1.length c0_1) := (blk_cell BK887.out 1).trans rfl
     have hfz12_0 := blk_frozen BK887.out 0
     have hfz12_1 := blk_frozen BK887.out 1
     go_wp2
     go_ret
     exact ⟨by first | rfl | (simp [errW_none, errW_some] <;> rfl) | (simp [*, errW_none, errW_some] <;> rfl), by repeat (first | (with_reducible first | exact HB.out | apply below_alloc | apply pw_below_drewN | apply below_drew1 | refine below_set ?_ GE887.out) | exact HB.out)⟩
 ·
  replace c3 := Bool.eq_false_iff.mpr c3
  subst c3
  have H1 : (some (-1)) = some r := by rw [if_neg (show ¬ (false = true) by decide)] at H; exact H
  clear H
  have H := H1
  clear H1
  obtain rfl := Option.some.inj H
  go_enter Try.func111, Try.ntmps111
  go_wp2_with (first | ((with_reducible refine gate_dst (N := 1) rfl ?_); refine box_event ?hg (N := 1) ?hd (cs := #[.slice A0_0 l0_0.length c0_0, .slice A0_1 l0_1.length c0_1]) (t := 27) ?hr ?_; (case hd => rfl); (case hg => rfl); (case hr => first | (go_simp; done) | (go_simp; rfl)); intro gb887 hg w13 hbox hb; have n0_ := Aside0.mk (below_step (by repeat (first | (with_reducible first | exact HB.out | apply below_alloc | apply pw_below_drewN | apply below_drew1) | exact HB.out)) hb); have n1_ := Aside0.mk (hbox); have n2_ := Aside0.mk ((by rw [hg]; exact (below_size (by repeat (first | (with_reducible first | exact HB.out | apply below_alloc | apply pw_below_drewN | apply below_drew1) | exact HB.out))) : w.heap.size ≤ gb887)); have n3_ := Aside0.mk ((by rw [hg]; exact (below_size (by repeat (first | (with_reducible first | exact HB.out | apply below_alloc | apply pw_below_drewN | apply below_drew1) | exact HB.out))) : w.heap.size ≤ gb887)); clear HB; have HB := n0_; have BK887 := n1_; have GW887 := n2_; have GE887 := n3_; clear n0_ n1_ n2_ n3_; clear hb hbox hg; have hcz14_0 : w13.cell? ⟨gb887, 0, none⟩ = some (.slice A0_0 l0_0.length c0_0) := (blk_cell BK887.out 0).trans rfl; have hcz14_1 : w13.cell? ⟨gb887, 1, none⟩ = some (.slice A0_1 l0_1.length c0_1) := (blk_cell BK887.out 1).trans rfl; have hfz14_0 := blk_frozen BK887.out 0; have hfz14_1 := blk_frozen BK887.out 1) | ((with_reducible refine gate_callee (f := 88) rfl ?_); refine goesL_ (some 6) rfl rfl Try.func88 (by kernel_rfl) rfl #[.agg #[.slice A0_0 l0_0.length c0_0, .slice A0_1 l0_1.length c0_1]] rfl (by (try simp only [List.map_toArray, List.map_cons, List.map_nil]); first | done | rfl | (simp only [List.length_drop, List.length_take]; rfl)) ?_; (with_reducible refine (selfstabref01_Connected.calls k _ _ l0_0 _ _ l0_1 false _ ?side1 ?side2 ?side3 ?side4 A2.out).mono ?_); (case side1 => repeat (first | exact (Kd.C_below HR0_0.out HB.out) | (with_reducible refine Kd.C_alloc ?_ _) | (with_reducible refine Kd.C_drewN ?_ _) | (with_reducible refine Kd.C_drew ?_))); (case side2 => exact HC0_0.out); (case side3 => repeat (first | exact (Kd.C_below HR0_1.out HB.out) | (with_reducible refine Kd.C_alloc ?_ _) | (with_reducible refine Kd.C_drewN ?_ _) | (with_reducible refine Kd.C_drew ?_))); (case side4 => exact HC0_1.out); rintro e w15 ⟨rfl, hb⟩; refine ⟨_, rfl, ?_⟩; have n0_ := Aside0.mk (blk_below (g := gb887) (o := .cells #[.slice A0_0 l0_0.length c0_0, .slice A0_1 l0_1.length c0_1] 27 (0, 0)) (by (with_reducible repeat (first | refine blk_drewN ?_ _ | refine blk_drew ?_ | refine blk_alloc ?_ _)); exact BK887.out) hb); have n1_ := Aside0.mk (below_step (by repeat (first | (with_reducible first | exact HB.out | apply below_alloc | apply pw_below_drewN | apply below_drew1 | refine below_set ?_ GE887.out) | exact HB.out)) hb); clear BK887; clear HB; have BK887 := n0_; have HB := n1_; clear n0_ n1_; (try clear hb); (try clear hb2); (try clear hk); (try clear hi)))
  go_ret
  exact ⟨by first | rfl | (simp [errW_none, errW_some] <;> rfl) | (simp [*, errW_none, errW_some] <;> rfl), by repeat (first | (with_reducible first | exact HB.out | apply below_alloc | apply pw_below_drewN | apply below_drew1 | refine below_set ?_ GE887.out) | exact HB.out)⟩
end Go.Proofs.YthapikakneikbaaG
namespace Go.Proofs.YthapikakneikbaaG
open Go.RowKit Go.Proofs.YthapikakneikbaaW.PrintWords Go.Proofs.YthapikakneikbaaW.PrintLast Go.Proofs.YthapikakneikbaaW.PrintMore
attribute [local go_sem] max2_int min2_int max_two min_two max_three min_three max_four min_four   -- for this text's walks alone
set_option linter.unusedVariables false
set_option linter.unusedSimpArgs false
def selfstabref27_Claim.f (k : Nat) (l0_0 : List Int) (l0_1 : List (List (S60))) : Option (Int × Bool × Bool × Int × Int) := (selfstabref27_Fit.f k l0_0 l0_1).bind fun t892 => (if t892 = true then ((selfstabref01_Diameter.f k l0_0 l0_1).bind fun t893 => (some (3, false, true, wrap64 ((wrap64 (Int.tdiv t893 2)) + 1), (-1)))) else (some (0, false, false, 0, 0)))
theorem selfstabref27_Claim.mono : ∀ a0 a1 k, LeO (selfstabref27_Claim.f k a0 a1) (selfstabref27_Claim.f (k + 1) a0 a1) := by
 intro a0 a1 k
 unfold selfstabref27_Claim.f
 repeat' first
   | (with_reducible exact selfstabref01_Diameter.mono _ _ _)
   | (with_reducible exact selfstabref27_Fit.mono _ _ _)
   | (with_reducible exact LeO.refl _)
   | (with_reducible exact LeO.none _)
   | (with_reducible refine LeO.ite ?_ ?_)
   | (with_reducible refine LeO.bind ?_ (fun _ => ?_))
   | exact selfstabref01_Diameter.mono _ _ _
   | exact selfstabref27_Fit.mono _ _ _
   | exact LeO.none _
   | refine LeO.ite ?_ ?_
   | refine LeO.bind ?_ (fun _ => ?_)
set_option maxHeartbeats 8000000 in
set_option maxRecDepth 100000 in
theorem selfstabref27_Claim.calls (k : Nat) (A0_0 : Option Addr) (c0_0 : Nat) (l0_0 : List Int) (A0_1 : Option Addr) (c0_1 : Nat) (l0_1 : List (List (S60))) (r1 : Int) (r2 : Bool) (r3 : Bool) (r4 : Int) (r5 : Int) (w : World) (hr0_0 : Kd.C (Kd.int .i64) w A0_0 l0_0.length l0_0) (hc0_0 : l0_0.length ≤ c0_0) (hr0_1 : Kd.C (Kd.slice 60 k60) w A0_1 l0_1.length l0_1) (hc0_1 : l0_1.length ≤ c0_1) (h : selfstabref27_Claim.f k l0_0 l0_1 = some (r1, r2, r3, r4, r5)) :
  Calls Try.prog 64 #[.agg #[.slice A0_0 l0_0.length c0_0, .slice A0_1 l0_1.length c0_1]] w fun e w' => e = .returned (.agg #[.int .i64 r1, .bool r2, .bool r3, .int .i64 r4, .int .i64 r5]) ∧ Below w.heap.size w w' := by
 have hu27 := Try.underlying27
 have hu44 := Try.underlying44
 have HR0_0 := Aside0.mk hr0_0
 have HC0_0 := Aside0.mk hc0_0
 clear hr0_0 hc0_0
 have HR0_1 := Aside0.mk hr0_1
 have HC0_1 := Aside0.mk hc0_1
 clear hr0_1 hc0_1
 have HB := Aside0.mk (Below.refl w.heap.size w)
 have H : ((selfstabref27_Fit.f k l0_0 l0_1).bind fun t892 => (if t892 = true then ((selfstabref01_Diameter.f k l0_0 l0_1).bind fun t893 => (some (3, false, true, wrap64 ((wrap64 (Int.tdiv t893 2)) + 1), (-1)))) else (some (0, false, false, 0, 0)))) = some (r1, r2, r3, r4, r5) := h
 clear h
 replace H := Option.bind_eq_some_iff.mp H
 obtain ⟨t892, A20, H⟩ := H
 replace H : (if t892 = true then ((selfstabref01_Diameter.f k l0_0 l0_1).bind fun t893 => (some (3, false, true, wrap64 ((wrap64 (Int.tdiv t893 2)) + 1), (-1)))) else (some (0, false, false, 0, 0))) = some (r1, r2, r3, r4, r5) := H
 have A2 := Aside0.mk A20
 clear A20
 by_cases c3 : t892 = true
 ·
  subst c3
  have H1 : ((selfstabref01_Diameter.f k l0_0 l0_1).bind fun t893 => (some (3, false, true, wrap64 ((wrap64 (Int.tdiv t893 2)) + 1), (-1)))) = some (r1, r2, r3, r4, r5) := by rw [if_pos rfl] at H; exact H
  clear H
  have H := H1
  clear H1
  replace H := Option.bind_eq_some_iff.mp H
  obtain ⟨t893, A40, H⟩ := H
  replace H : (some (3, false, true, wrap64 ((wrap64 (Int.tdiv t893 2)) + 1), (-1))) = some (r1, r2, r3, r4, r5) := H
  have A4 := Aside0.mk A40
  clear A40
  simp only [Option.some.injEq, Prod.mk.injEq] at H
  obtain ⟨rfl, rfl, rfl, rfl, rfl⟩ := H
  go_enter Try.func64, Try.ntmps64
  go_wp2_with (first | ((with_reducible refine gate_dst (N := 1) rfl ?_); refine box_event ?hg (N := 1) ?hd (cs := #[.slice A0_0 l0_0.length c0_0, .slice A0_1 l0_1.length c0_1]) (t := 27) ?hr ?_; (case hd => rfl); (case hg => rfl); (case hr => first | (go_simp; done) | (go_simp; rfl)); intro gb890 hg w5 hbox hb; have n0_ := Aside0.mk (below_step (by repeat (first | (with_reducible first | exact HB.out | apply below_alloc | apply pw_below_drewN | apply below_drew1) | exact HB.out)) hb); have n1_ := Aside0.mk (hbox); have n2_ := Aside0.mk ((by rw [hg]; exact (below_size (by repeat (first | (with_reducible first | exact HB.out | apply below_alloc | apply pw_below_drewN | apply below_drew1) | exact HB.out))) : w.heap.size ≤ gb890)); have n3_ := Aside0.mk ((by rw [hg]; exact (below_size (by repeat (first | (with_reducible first | exact HB.out | apply below_alloc | apply pw_below_drewN | apply below_drew1) | exact HB.out))) : w.heap.size ≤ gb890)); clear HB; have HB := n0_; have BK890 := n1_; have GW890 := n2_; have GE890 := n3_; clear n0_ n1_ n2_ n3_; clear hb hbox hg) | ((with_reducible refine gate_dst (N := 2) rfl ?_); refine box_event ?hg (N := 2) ?hd (cs := #[.int .i64 0, .bool false, .bool false, .int .i64 0, .int .i64 0]) (t := 44) ?hr ?_; (case hd => rfl); (case hg => rfl); (case hr => first | (go_simp; done) | (go_simp; rfl)); intro gb891 hg w6 hbox hb; have n0_ := Aside0.mk (blk_below (g := gb890) (o := .cells #[.slice A0_0 l0_0.length c0_0, .slice A0_1 l0_1.length c0_1] 27 (0, 0)) (by (with_reducible repeat (first | refine blk_drewN ?_ _ | refine blk_drew ?_ | refine blk_alloc ?_ _)); exact BK890.out) hb); have n1_ := Aside0.mk (below_step (by repeat (first | (with_reducible first | exact HB.out | apply below_alloc | apply pw_below_drewN | apply below_drew1 | refine below_set ?_ GE890.out) | exact HB.out)) hb); have n2_ := Aside0.mk (hbox); have n3_ := Aside0.mk ((by rw [hg]; exact (below_size (by repeat (first | (with_reducible first | exact HB.out | apply below_alloc | apply pw_below_drewN | apply below_drew1 | refine below_set ?_ GE890.out) | exact HB.out))) : w.heap.size ≤ gb891)); have n4_ := Aside0.mk ((by rw [hg]; exact (below_size (by repeat (first | (with_reducible first | exact HB.out | apply below_alloc | apply pw_below_drewN | apply below_drew1 | refine below_set ?_ GE890.out) | exact HB.out))) : w.heap.size ≤ gb891)); have n5_ := Aside0.mk ((by rw [hg]; exact Nat.ne_of_lt (blk_lt (g := gb890) (o := .cells #[.slice A0_0 l0_0.length c0_0, .slice A0_1 l0_1.length c0_1] 27 (0, 0)) (by (with_reducible repeat (first | refine blk_drewN ?_ _ | refine blk_drew ?_ | refine blk_alloc ?_ _)); exact BK890.out)) : gb890 ≠ gb891)); have n6_ := Aside0.mk ((by rw [hg]; exact Nat.ne_of_gt (blk_lt (g := gb890) (o := .cells #[.slice A0_0 l0_0.length c0_0, .slice A0_1 l0_1.length c0_1] 27 (0, 0)) (by (with_reducible repeat (first | refine blk_drewN ?_ _ | refine blk_drew ?_ | refine blk_alloc ?_ _)); exact BK890.out)) : gb891 ≠ gb890)); clear BK890; clear HB; have BK890 := n0_; have HB := n1_; have BK891 := n2_; have GW891 := n3_; have GE891 := n4_; have NB890_891 := n5_; have NB891_890 := n6_; clear n0_ n1_ n2_ n3_ n4_ n5_ n6_; clear hb hbox hg; have hnb7 := NB890_891.out; have hnc7 := NB891_890.out; have hcz8_0 : w6.cell? ⟨gb890, 0, none⟩ = some (.slice A0_0 l0_0.length c0_0) := (blk_cell BK890.out 0).trans rfl; have hcz8_1 : w6.cell? ⟨gb890, 1, none⟩ = some (.slice A0_1 l0_1.length c0_1) := (blk_cell BK890.out 1).trans rfl; have hfz8_0 := blk_frozen BK890.out 0; have hfz8_1 := blk_frozen BK890.out 1) | ((with_reducible refine gate_callee (f := 60) rfl ?_); refine goesL_ (some 4) rfl rfl Try.func60 (by kernel_rfl) rfl #[.agg #[.slice A0_0 l0_0.length c0_0, .slice A0_1 l0_1.length c0_1]] rfl (by (try simp only [List.map_toArray, List.map_cons, List.map_nil]); first | done | rfl | (simp only [List.length_drop, List.length_take]; rfl)) ?_; (with_reducible refine (selfstabref27_Fit.calls k _ _ l0_0 _ _ l0_1 true _ ?side1 ?side2 ?side3 ?side4 A2.out).mono ?_); (case side1 => repeat (first | exact (Kd.C_below HR0_0.out HB.out) | (with_reducible refine Kd.C_alloc ?_ _) | (with_reducible refine Kd.C_drewN ?_ _) | (with_reducible refine Kd.C_drew ?_))); (case side2 => exact HC0_0.out); (case side3 => repeat (first | exact (Kd.C_below HR0_1.out HB.out) | (with_reducible refine Kd.C_alloc ?_ _) | (with_reducible refine Kd.C_drewN ?_ _) | (with_reducible refine Kd.C_drew ?_))); (case side4 => exact HC0_1.out); rintro e w9 ⟨rfl, hb⟩; refine ⟨_, rfl, ?_⟩; have n0_ := Aside0.mk (blk_below (g := gb890) (o := .cells #[.slice A0_0 l0_0.length c0_0, .slice A0_1 l0_1.length c0_1] 27 (0, 0)) (by (with_reducible repeat (first | refine blk_drewN ?_ _ | refine blk_drew ?_ | refine blk_alloc ?_ _)); exact BK890.out) hb); have n1_ := Aside0.mk (blk_below (g := gb891) (o := .cells #[.int .i64 0, .bool false, .bool false, .int .i64 0, .int .i64 0] 44 (0, 0)) (by (with_reducible repeat (first | refine blk_drewN ?_ _ | refine blk_drew ?_ | refine blk_alloc ?_ _)); exact BK891.out) hb); have n2_ := Aside0.mk (below_step (by repeat (first | (with_reducible first | exact HB.out | apply below_alloc | apply pw_below_drewN | apply below_drew1 | refine below_set ?_ GE890.out | refine below_set ?_ GE891.out) | exact HB.out)) hb); clear BK890; clear BK891; clear HB; have BK890 := n0_; have BK891 := n1_; have HB := n2_; clear n0_ n1_ n2_; (try clear hb); (try clear hb2); (try clear hk); (try clear hi); have hcz10_0 : w9.cell? ⟨gb890, 0, none⟩ = some (.slice A0_0 l0_0.length c0_0) := (blk_cell BK890.out 0).trans rfl; have hcz10_1 : w9.cell? ⟨gb890, 1, none⟩ = some (.slice A0_1 l0_1.length c0_1) := (blk_cell BK890.out 1).trans rfl; have hfz10_0 := blk_frozen BK890.out 0; have hfz10_1 := blk_frozen BK890.out 1) | ((with_reducible refine gate_callee (f := 111) rfl ?_); refine goesL_ (some 8) rfl rfl Try.func111 (by kernel_rfl) rfl #[.agg #[.slice A0_0 l0_0.length c0_0, .slice A0_1 l0_1.length c0_1]] rfl (by (try simp only [List.map_toArray, List.map_cons, List.map_nil]); first | done | rfl | (simp only [List.length_drop, List.length_take]; rfl)) ?_; (with_reducible refine (selfstabref01_Diameter.calls k _ _ l0_0 _ _ l0_1 t893 _ ?side1 ?side2 ?side3 ?side4 A4.out).mono ?_); (case side1 => repeat (first | exact (Kd.C_below HR0_0.out HB.out) | (with_reducible refine Kd.C_alloc ?_ _) | (with_reducible refine Kd.C_drewN ?_ _) | (with_reducible refine Kd.C_drew ?_))); (case side2 => exact HC0_0.out); (case side3 => repeat (first | exact (Kd.C_below HR0_1.out HB.out) | (with_reducible refine Kd.C_alloc ?_ _) | (with_reducible refine Kd.C_drewN ?_ _) | (with_reducible refine Kd.C_drew ?_))); (case side4 => exact HC0_1.out); rintro e w11 ⟨rfl, hb⟩; refine ⟨_, rfl, ?_⟩; have n0_ := Aside0.mk (blk_below (g := gb890) (o := .cells #[.slice A0_0 l0_0.length c0_0, .slice A0_1 l0_1.length c0_1] 27 (0, 0)) (by (with_reducible repeat (first | refine blk_drewN ?_ _ | refine blk_drew ?_ | refine blk_alloc ?_ _)); exact BK890.out) hb); have n1_ := Aside0.mk (blk_below (g := gb891) (o := .cells #[.int .i64 0, .bool false, .bool false, .int .i64 0, .int .i64 0] 44 (0, 0)) (by (with_reducible repeat (first | refine blk_drewN ?_ _ | refine blk_drew ?_ | refine blk_alloc ?_ _)); exact BK891.out) hb); have n2_ := Aside0.mk (below_step (by repeat (first | (with_reducible first | exact HB.out | apply below_alloc | apply pw_below_drewN | apply below_drew1 | refine below_set ?_ GE890.out | refine below_set ?_ GE891.out) | exact HB.out)) hb); clear BK890; clear BK891; clear HB; have BK890 := n0_; have BK891 := n1_; have HB := n2_; clear n0_ n1_ n2_; (try clear hb); (try clear hb2); (try clear hk); (try clear hi); have hcz12_0 : w11.cell? ⟨gb891, 0, none⟩ = some (.int .i64 0) := (blk_cell BK891.out 0).trans rfl; have hcz12_1 : w11.cell? ⟨gb891, 1, none⟩ = some (.bool false) := (blk_cell BK891.out 1).trans rfl; have hcz12_2 : w11.cell? ⟨gb891, 2, none⟩ = some (.bool false) := (blk_cell BK891.out 2).trans rfl; have hcz12_3 : w11.cell? ⟨gb891, 3, none⟩ = some (.int .i64 0) := (blk_cell BK891.out 3).trans rfl; have hcz12_4 : w11.cell? ⟨gb891, 4, none⟩ = some (.int .i64 0) := (blk_cell BK891.out 4).trans rfl; have hfz12_0 := blk_frozen BK891.out 0; have hfz12_1 := blk_frozen BK891.out 1; have hfz12_2 := blk_frozen BK891.out 2; have hfz12_3 := blk_frozen BK891.out 3; have hfz12_4 := blk_frozen BK891.out 4))
  refine bodyPost_ret (results_cell_row rfl _ _ gb891 44 #[.int .i64 3, .bool false, .bool true, .int .i64 (wrap64 ((wrap64 (Int.tdiv t893 2)) + 1)), .int .i64 (-1)] (0, 0) _ rfl (by (with_reducible repeat (first | refine blk_drewN ?_ _ | refine blk_drew ?_ | refine blk_alloc ?_ _)); refine blk_put (cs := #[.int .i64 3, .bool false, .bool true, .int .i64 (wrap64 ((wrap64 (Int.tdiv t893 2)) + 1)), .int .i64 0]) ?_ 4 _ rfl; (with_reducible repeat (first | refine blk_drewN ?_ _ | refine blk_drew ?_ | refine blk_alloc ?_ _)); refine blk_put (cs := #[.int .i64 3, .bool false, .bool true, .int .i64 0, .int .i64 0]) ?_ 3 _ rfl; (with_reducible repeat (first | refine blk_drewN ?_ _ | refine blk_drew ?_ | refine blk_alloc ?_ _)); refine blk_put (cs := #[.int .i64 3, .bool false, .bool false, .int .i64 0, .int .i64 0]) ?_ 2 _ rfl; (with_reducible repeat (first | refine blk_drewN ?_ _ | refine blk_drew ?_ | refine blk_alloc ?_ _)); refine blk_put (cs := #[.int .i64 3, .bool false, .bool false, .int .i64 0, .int .i64 0]) ?_ 1 _ rfl; (with_reducible repeat (first | refine blk_drewN ?_ _ | refine blk_drew ?_ | refine blk_alloc ?_ _)); refine blk_put (cs := #[.int .i64 0, .bool false, .bool false, .int .i64 0, .int .i64 0]) ?_ 0 _ rfl; (with_reducible repeat (first | refine blk_drewN ?_ _ | refine blk_drew ?_ | refine blk_alloc ?_ _)); exact BK891.out) Try.underlying44 rfl (by kernel_rfl)) rfl ?_
  exact ⟨by first | rfl | (simp [errW_none, errW_some] <;> rfl) | (simp [*, errW_none, errW_some] <;> rfl), by repeat (first | (with_reducible first | exact HB.out | apply below_alloc | apply pw_below_drewN | apply below_drew1 | refine below_set ?_ GE890.out | refine below_set ?_ GE891.out) | exact HB.out)⟩
 ·
  replace c3 := Bool.eq_false_iff.mpr c3
  subst c3
  have H1 : (some (0, false, false, 0, 0)) = some (r1, r2, r3, r4, r5) := by rw [if_neg (show ¬ (false = true) by decide)] at H; exact H
  clear H
  have H := H1
  clear H1
  simp only [Option.some.injEq, Prod.mk.injEq] at H
  obtain ⟨rfl, rfl, rfl, rfl, rfl⟩ := H
  go_enter Try.func64, Try.ntmps64
  go_wp2_with (first | ((with_reducible refine gate_dst (N := 1) rfl ?_); refine box_event ?hg (N := 1) ?hd (cs := #[.slice A0_0 l0_0.length c0_0, .slice A0_1 l0_1.length c0_1]) (t := 27) ?hr ?_; (case hd => rfl); (case hg => rfl); (case hr => first | (go_simp; done) | (go_simp; rfl)); intro gb890 hg w13 hbox hb; have n0_ := Aside0.mk (below_step (by repeat (first | (with_reducible first | exact HB.out | apply below_alloc | apply pw_below_drewN | apply below_drew1) | exact HB.out)) hb); have n1_ := Aside0.mk (hbox); have n2_ := Aside0.mk ((by rw [hg]; exact (below_size (by repeat (first | (with_reducible first | exact HB.out | apply below_alloc | apply pw_below_drewN | apply below_drew1) | exact HB.out))) : w.heap.size ≤ gb890)); have n3_ := Aside0.mk ((by rw [hg]; exact (below_size (by repeat (first | (with_reducible first | exact HB.out | apply below_alloc | apply pw_below_drewN | apply below_drew1) | exact HB.out))) : w.heap.size ≤ gb890)); clear HB; have HB := n0_; have BK890 := n1_; have GW890 := n2_; have GE890 := n3_; clear n0_ n1_ n2_ n3_; clear hb hbox hg) | ((with_reducible refine gate_dst (N := 2) rfl ?_); refine box_event ?hg (N := 2) ?hd (cs := #[.int .i64 0, .bool false, .bool false, .int .i64 0, .int .i64 0]) (t := 44) ?hr ?_; (case hd => rfl); (case hg => rfl); (case hr => first | (go_simp; done) | (go_simp; rfl)); intro gb891 hg w14 hbox hb; have n0_ := Aside0.mk (blk_below (g := gb890) (o := .cells #[.slice A0_0 l0_0.length c0_0, .slice A0_1 l0_1.length c0_1] 27 (0, 0)) (by (with_reducible repeat (first | refine blk_drewN ?_ _ | refine blk_drew ?_ | refine blk_alloc ?_ _)); exact BK890.out) hb); have n1_ := Aside0.mk (below_step (by repeat (first | (with_reducible first | exact HB.out | apply below_alloc | apply pw_below_drewN | apply below_drew1 | refine below_set ?_ GE890.out) | exact HB.out)) hb); have n2_ := Aside0.mk (hbox); have n3_ := Aside0.mk ((by rw [hg]; exact (below_size (by repeat (first | (with_reducible first | exact HB.out | apply below_alloc | apply pw_below_drewN | apply below_drew1 | refine below_set ?_ GE890.out) | exact HB.out))) : w.heap.size ≤ gb891)); have n4_ := Aside0.mk ((by rw [hg]; exact (below_size (by repeat (first | (with_reducible first | exact HB.out | apply below_alloc | apply pw_below_drewN | apply below_drew1 | refine below_set ?_ GE890.out) | exact HB.out))) : w.heap.size ≤ gb891)); have n5_ := Aside0.mk ((by rw [hg]; exact Nat.ne_of_lt (blk_lt (g := gb890) (o := .cells #[.slice A0_0 l0_0.length c0_0, .slice A0_1 l0_1.length c0_1] 27 (0, 0)) (by (with_reducible repeat (first | refine blk_drewN ?_ _ | refine blk_drew ?_ | refine blk_alloc ?_ _)); exact BK890.out)) : gb890 ≠ gb891)); have n6_ := Aside0.mk ((by rw [hg]; exact Nat.ne_of_gt (blk_lt (g := gb890) (o := .cells #[.slice A0_0 l0_0.length c0_0, .slice A0_1 l0_1.length c0_1] 27 (0, 0)) (by (with_reducible repeat (first | refine blk_drewN ?_ _ | refine blk_drew ?_ | refine blk_alloc ?_ _)); exact BK890.out)) : gb891 ≠ gb890)); clear BK890; clear HB; have BK890 := n0_; have HB := n1_; have BK891 := n2_; have GW891 := n3_; have GE891 := n4_; have NB890_891 := n5_; have NB891_890 := n6_; clear n0_ n1_ n2_ n3_ n4_ n5_ n6_; clear hb hbox hg; have hnb15 := NB890_891.out; have hnc15 := NB891_890.out; have hcz16_0 : w14.cell? ⟨gb890, 0, none⟩ = some (.slice A0_0 l0_0.length c0_0) := (blk_cell BK890.out 0).trans rfl; have hcz16_1 : w14.cell? ⟨gb890, 1, none⟩ = some (.slice A0_1 l0_1.length c0_1) := (blk_cell BK890.out 1).trans rfl; have hfz16_0 := blk_frozen BK890.out 0; have hfz16_1 := blk_frozen BK890.out 1) | ((with_reducible refine gate_callee (f := 60) rfl ?_); refine goesL_ (some 4) rfl rfl Try.func60 (by kernel_rfl) rfl #[.agg #[.slice A0_0 l0_0.length c0_0, .slice A0_1 l0_1.length c0_1]] rfl (by (try simp only [List.map_toArray, List.map_cons, List.map_nil]); first | done | rfl | (simp only [List.length_drop, List.length_take]; rfl)) ?_; (with_reducible refine (selfstabref27_Fit.calls k _ _ l0_0 _ _ l0_1 false _ ?side1 ?side2 ?side3 ?side4 A2.out).mono ?_); (case side1 => repeat (first | exact (Kd.C_below HR0_0.out HB.out) | (with_reducible refine Kd.C_alloc ?_ _) | (with_reducible refine Kd.C_drewN ?_ _) | (with_reducible refine Kd.C_drew ?_))); (case side2 => exact HC0_0.out); (case side3 => repeat (first | exact (Kd.C_below HR0_1.out HB.out) | (with_reducible refine Kd.C_alloc ?_ _) | (with_reducible refine Kd.C_drewN ?_ _) | (with_reducible refine Kd.C_drew ?_))); (case side4 => exact HC0_1.out); rintro e w17 ⟨rfl, hb⟩; refine ⟨_, rfl, ?_⟩; have n0_ := Aside0.mk (blk_below (g := gb890) (o := .cells #[.slice A0_0 l0_0.length c0_0, .slice A0_1 l0_1.length c0_1] 27 (0, 0)) (by (with_reducible repeat (first | refine blk_drewN ?_ _ | refine blk_drew ?_ | refine blk_alloc ?_ _)); exact BK890.out) hb); have n1_ := Aside0.mk (blk_below (g := gb891) (o := .cells #[.int .i64 0, .bool false, .bool false, .int .i64 0, .int .i64 0] 44 (0, 0)) (by (with_reducible repeat (first | refine blk_drewN ?_ _ | refine blk_drew ?_ | refine blk_alloc ?_ _)); exact BK891.out) hb); have n2_ := Aside0.mk (below_step (by repeat (first | (with_reducible first | exact HB.out | apply below_alloc | apply pw_below_drewN | apply below_drew1 | refine below_set ?_ GE890.out | refine below_set ?_ GE891.out) | exact HB.out)) hb); clear BK890; clear BK891; clear HB; have BK890 := n0_; have BK891 := n1_; have HB := n2_; clear n0_ n1_ n2_; (try clear hb); (try clear hb2); (try clear hk); (try clear hi); have hcz18_0 : w17.cell? ⟨gb891, 0, none⟩ = some (.int .i64 0) := (blk_cell BK891.out 0).trans rfl; have hcz18_1 : w17.cell? ⟨gb891, 1, none⟩ = some (.bool false) := (blk_cell BK891.out 1).trans rfl; have hcz18_2 : w17.cell? ⟨gb891, 2, none⟩ = some (.bool false) := (blk_cell BK891.out 2).trans rfl; have hcz18_3 : w17.cell? ⟨gb891, 3, none⟩ = some (.int .i64 0) := (blk_cell BK891.out 3).trans rfl; have hcz18_4 : w17.cell? ⟨gb891, 4, none⟩ = some (.int .i64 0) := (blk_cell BK891.out 4).trans rfl; have hfz18_0 := blk_frozen BK891.out 0; have hfz18_1 := blk_frozen BK891.out 1; have hfz18_2 := blk_frozen BK891.out 2; have hfz18_3 := blk_frozen BK891.out 3; have hfz18_4 := blk_frozen BK891.out 4))
  refine bodyPost_ret (results_cell_row rfl _ _ gb891 44 #[.int .i64 0, .bool false, .bool false, .int .i64 0, .int .i64 0] (0, 0) _ rfl (by (with_reducible repeat (first | refine blk_drewN ?_ _ | refine blk_drew ?_ | refine blk_alloc ?_ _)); refine blk_put (cs := #[.int .i64 0, .bool false, .bool false, .int .i64 0, .int .i64 0]) ?_ 4 _ rfl; (with_reducible repeat (first | refine blk_drewN ?_ _ | refine blk_drew ?_ | refine blk_alloc ?_ _)); refine blk_put (cs := #[.int .i64 0, .bool false, .bool false, .int .i64 0, .int .i64 0]) ?_ 3 _ rfl; (with_reducible repeat (first | refine blk_drewN ?_ _ | refine blk_drew ?_ | refine blk_alloc ?_ _)); refine blk_put (cs := #[.int .i64 0, .bool false, .bool false, .int .i64 0, .int .i64 0]) ?_ 2 _ rfl; (with_reducible repeat (first | refine blk_drewN ?_ _ | refine blk_drew ?_ | refine blk_alloc ?_ _)); refine blk_put (cs := #[.int .i64 0, .bool false, .bool false, .int .i64 0, .int .i64 0]) ?_ 1 _ rfl; (with_reducible repeat (first | refine blk_drewN ?_ _ | refine blk_drew ?_ | refine blk_alloc ?_ _)); refine blk_put (cs := #[.int .i64 0, .bool false, .bool false, .int .i64 0, .int .i64 0]) ?_ 0 _ rfl; (with_reducible repeat (first | refine blk_drewN ?_ _ | refine blk_drew ?_ | refine blk_alloc ?_ _)); exact BK891.out) Try.underlying44 rfl (by kernel_rfl)) rfl ?_
  exact ⟨by first | rfl | (simp [errW_none, errW_some] <;> rfl) | (simp [*, errW_none, errW_some] <;> rfl), by repeat (first | (with_reducible first | exact HB.out | apply below_alloc | apply pw_below_drewN | apply below_drew1 | refine below_set ?_ GE890.out | refine below_set ?_ GE891.out) | exact HB.out)⟩
end Go.Proofs.YthapikakneikbaaG

namespace Go.Proofs.YthapikakneikbaaG
open Go.RowKit Go.Proofs.YthapikakneikbaaW.PrintWords Go.Proofs.YthapikakneikbaaW.PrintLast Go.Proofs.YthapikakneikbaaW.PrintMore
attribute [local go_sem] max2_int min2_int max_two min_two max_three min_three max_four min_four   -- for this text's walks alone
set_option linter.unusedVariables false
set_option linter.unusedSimpArgs false
def selfstabref01_All.f (a0 : Int) : Option (Int) := some ((Go.Proofs.Ythapikakneikbaa.allB a0 : Nat) : Int)
theorem selfstabref01_All.calls (a0 : Int) (r : Int) (w : World) (h : selfstabref01_All.f a0 = some r) :
  Calls Try.prog 16 #[.int .i64 a0] w fun e w' => e = .returned (.int .u32 r) ∧ Drawn0 w w' := by
 injection h with h
 subst h
 refine (Go.Proofs.Ythapikakneikbaa.all_calls w a0).mono ?_
 rintro e w' ⟨rfl, rfl⟩
 exact ⟨rfl, ⟨⟨0, rfl⟩⟩⟩
end Go.Proofs.YthapikakneikbaaG
namespace Go.Proofs.YthapikakneikbaaG
open Go.RowKit Go.Proofs.YthapikakneikbaaW.PrintWords Go.Proofs.YthapikakneikbaaW.PrintLast Go.Proofs.YthapikakneikbaaW.PrintMore
attribute [local go_sem] max2_int min2_int max_two min_two max_three min_three max_four min_four   -- for this text's walks alone
set_option linter.unusedVariables false
set_option linter.unusedSimpArgs false
mutual
def selfstabref27_Highest.l0 : Nat → List (List Int) → Int → Int → Int → List Int → List (List (S60)) → Option (Int)
 | 0, _, _, _, _, _, _ => none
 | k + 1, x1, x2, x7, x8, x895000, x895001 => if x8 < (x1.length : Int) then (selfstabref27_Highest.l1 k x1 x2 x7 x8 0 x895000 x895001) else (some x7)
def selfstabref27_Highest.l1 : Nat → List (List Int) → Int → Int → Int → Int → List Int → List (List (S60)) → Option (Int)
 | 0, _, _, _, _, _, _, _ => none
 | k + 1, x1, x2, x7, x8, x9, x895000, x895001 => if 0 ≤ x8 then (if x8 < (x895001.length : Int) then (if x9 < ((rd_L2 x895001 x8).length : Int) then (if 0 ≤ x9 then (if 0 ≤ ((rd_T60 (rd_L2 x895001 x8) x9).f0) then (if ((rd_T60 (rd_L2 x895001 x8) x9).f0) < (x1.length : Int) then (if 0 ≤ x2 then (if x2 < ((rd_L3 x1 ((rd_T60 (rd_L2 x895001 x8) x9).f0)).length : Int) then (if x8 < (x1.length : Int) then (if x2 < ((rd_L3 x1 x8).length : Int) then (if (rd (rd_L3 x1 ((rd_T60 (rd_L2 x895001 x8) x9).f0)) x2) > (rd (rd_L3 x1 x8) x2) then (if 0 ≤ (IntKind.u64.wrap (x8)) then (selfstabref27_Highest.l1 k x1 x2 (Go.bits .andNot .u32 x7 (shl .u32 1 (IntKind.u64.wrap (x8)))) x8 (wrap64 (x9 + 1)) x895000 x895001) else (none)) else (selfstabref27_Highest.l1 k x1 x2 x7 x8 (wrap64 (x9 + 1)) x895000 x895001)) else (none)) else (none)) else (none)) else (none)) else (none)) else (none)) else (none)) else (selfstabref27_Highest.l0 k x1 x2 x7 (wrap64 (x8 + 1)) x895000 x895001)) else (none)) else (none)
end
def selfstabref27_Highest.f (k : Nat) (l0_0 : List Int) (l0_1 : List (List (S60))) (l1 : List (List Int)) (a2 : Int) : Option (Int) := (selfstabref01_All.f (l1.length : Int)).bind fun t895 => (selfstabref27_Highest.l0 k l1 a2 t895 0 l0_0 l0_1)
theorem selfstabref27_Highest.mono_l : ∀ k, (∀ y0 y1 y2 y3 y4 y5, LeO (selfstabref27_Highest.l0 k y0 y1 y2 y3 y4 y5) (selfstabref27_Highest.l0 (k + 1) y0 y1 y2 y3 y4 y5)) ∧ (∀ y0 y1 y2 y3 y4 y5 y6, LeO (selfstabref27_Highest.l1 k y0 y1 y2 y3 y4 y5 y6) (selfstabref27_Highest.l1 (k + 1) y0 y1 y2 y3 y4 y5 y6))
 | 0 => ⟨fun _ _ _ _ _ _ r h => by simp [selfstabref27_Highest.l0] at h, fun _ _ _ _ _ _ _ r h => by simp [selfstabref27_Highest.l1] at h⟩
 | k + 1 => by
  obtain ⟨ih0, ih1⟩ := selfstabref27_Highest.mono_l k
  refine ⟨?_, ?_⟩
  ·
   intro y0 y1 y2 y3 y4 y5
   unfold selfstabref27_Highest.l0
   repeat' first
   | (with_reducible exact ih0 _ _ _ _ _ _)
   | (with_reducible exact ih1 _ _ _ _ _ _ _)
   | (with_reducible exact LeO.refl _)
   | (with_reducible exact LeO.none _)
   | (with_reducible refine LeO.ite ?_ ?_)
   | (with_reducible refine LeO.bind ?_ (fun _ => ?_))
   | exact ih0 _ _ _ _ _ _
   | exact ih1 _ _ _ _ _ _ _
   | exact LeO.none _
   | refine LeO.ite ?_ ?_
   | refine LeO.bind ?_ (fun _ => ?_)
  ·
   intro y0 y1 y2 y3 y4 y5 y6
   unfold selfstabref27_Highest.l1
   repeat' first
   | (with_reducible exact ih0 _ _ _ _ _ _)
   | (with_reducible exact ih1 _ _ _ _ _ _ _)
   | (with_reducible exact LeO.refl _)
   | (with_reducible exact LeO.none _)
   | (with_reducible refine LeO.ite ?_ ?_)
   | (with_reducible refine LeO.bind ?_ (fun _ => ?_))
   | exact ih0 _ _ _ _ _ _
   | exact ih1 _ _ _ _ _ _ _
   | exact LeO.none _
   | refine LeO.ite ?_ ?_
   | refine LeO.bind ?_ (fun _ => ?_)
theorem selfstabref27_Highest.mono : ∀ a0 a1 a2 a3 k, LeO (selfstabref27_Highest.f k a0 a1 a2 a3) (selfstabref27_Highest.f (k + 1) a0 a1 a2 a3) := by
 intro a0 a1 a2 a3 k
 obtain ⟨ih0, ih1⟩ := selfstabref27_Highest.mono_l k
 unfold selfstabref27_Highest.f
 repeat' first
   | (with_reducible exact ih0 _ _ _ _ _ _)
   | (with_reducible exact ih1 _ _ _ _ _ _ _)
   | (with_reducible exact LeO.refl _)
   | (with_reducible exact LeO.none _)
   | (with_reducible refine LeO.ite ?_ ?_)
   | (with_reducible refine LeO.bind ?_ (fun _ => ?_))
   | exact ih0 _ _ _ _ _ _
   | exact ih1 _ _ _ _ _ _ _
   | exact LeO.none _
   | refine LeO.ite ?_ ?_
   | refine LeO.bind ?_ (fun _ => ?_)
set_option maxHeartbeats 8000000 in
set_option maxRecDepth 100000 in
theorem selfstabref27_Highest.calls (k : Nat) (A0_0 : Option Addr) (c0_0 : Nat) (l0_0 : List Int) (A0_1 : Option Addr) (c0_1 : Nat) (l0_1 : List (List (S60))) (A1 : Option Addr) (c1 : Nat) (l1 : List (List Int)) (a2 : Int) (r : Int) (w : World) (hr0_0 : Kd.C (Kd.int .i64) w A0_0 l0_0.length l0_0) (hc0_0 : l0_0.length ≤ c0_0) (hr0_1 : Kd.C (Kd.slice 60 k60) w A0_1 l0_1.length l0_1) (hc0_1 : l0_1.length ≤ c0_1) (hr1 : Kd.C (Kd.slice 3 (Kd.int .i64)) w A1 l1.length l1) (hc1 : l1.length ≤ c1) (h : selfstabref27_Highest.f k l0_0 l0_1 l1 a2 = some r) :
  Calls Try.prog 114 #[.agg #[.slice A0_0 l0_0.length c0_0, .slice A0_1 l0_1.length c0_1], .slice A1 l1.length c1, .int .i64 a2] w fun e w' => e = .returned (.int .u32 r) ∧ Below w.heap.size w w' := by
 have hu27 := Try.underlying27
 have HR0_0 := Aside0.mk hr0_0
 have HC0_0 := Aside0.mk hc0_0
 clear hr0_0 hc0_0
 have HR0_1 := Aside0.mk hr0_1
 have HC0_1 := Aside0.mk hc0_1
 clear hr0_1 hc0_1
 have HR1 := Aside0.mk hr1
 have HC1 := Aside0.mk hc1
 clear hr1 hc1
 have HB := Aside0.mk (Below.refl w.heap.size w)
 have H : ((selfstabref01_All.f (l1.length : Int)).bind fun t895 => (selfstabref27_Highest.l0 k l1 a2 t895 0 l0_0 l0_1)) = some r := h
 clear h
 replace H := Option.bind_eq_some_iff.mp H
 obtain ⟨t895, A40, H⟩ := H
 replace H : (selfstabref27_Highest.l0 k l1 a2 t895 0 l0_0 l0_1) = some r := H
 have A4 := Aside0.mk A40
 clear A40
 have H' := Aside0.mk H
 clear H
 go_enter Try.func114, Try.ntmps114
 go_wp2_with (first | ((with_reducible refine gate_dst (N := 3) rfl ?_); refine box_event ?hg (N := 3) ?hd (cs := #[.slice A0_0 l0_0.length c0_0, .slice A0_1 l0_1.length c0_1]) (t := 27) ?hr ?_; (case hd => rfl); (case hg => rfl); (case hr => first | (go_simp; done) | (go_simp; rfl)); intro gb894 hg w5 hbox hb; have n0_ := Aside0.mk (below_step (by repeat (first | (with_reducible first | exact HB.out | apply below_alloc | apply pw_below_drewN | apply below_drew1) | exact HB.out)) hb); have n1_ := Aside0.mk (hbox); have n2_ := Aside0.mk ((by rw [hg]; exact (below_size (by repeat (first | (with_reducible first | exact HB.out | apply below_alloc | apply pw_below_drewN | apply below_drew1) | exact HB.out))) : w.heap.size ≤ gb894)); have n3_ := Aside0.mk ((by rw [hg]; exact (below_size (by repeat (first | (with_reducible first | exact HB.out | apply below_alloc | apply pw_below_drewN | apply below_drew1) | exact HB.out))) : w.heap.size ≤ gb894)); clear HB; have HB := n0_; have BK894 := n1_; have GW894 := n2_; have GE894 := n3_; clear n0_ n1_ n2_ n3_; clear hb hbox hg) | (go_at_call 16; (with_reducible refine (selfstabref01_All.calls (l1.length : Int) t895 _ A4.out).mono ?_); rintro e w' ⟨rfl, ⟨nd, rfl⟩⟩; (try first | exact ⟨rfl, _, World.drewN_drewN _ _ _⟩ | exact ⟨rfl, _, Eq.trans (World.drewN_drewN _ _ _) (congrArg (World.drewN _) (Nat.add_assoc _ _ _))⟩)))
 repeat (go_quiet (first | ((with_reducible refine gate_dst (N := 3) rfl ?_); refine box_event ?hg (N := 3) ?hd (cs := #[.slice A0_0 l0_0.length c0_0, .slice A0_1 l0_1.length c0_1]) (t := 27) ?hr ?_; (case hd => rfl); (case hg => rfl); (case hr => first | (go_simp; done) | (go_simp; rfl)); intro gb894 hg w5 hbox hb; have n0_ := Aside0.mk (below_step (by repeat (first | (with_reducible first | exact HB.out | apply below_alloc | apply pw_below_drewN | apply below_drew1) | exact HB.out)) hb); have n1_ := Aside0.mk (hbox); have n2_ := Aside0.mk ((by rw [hg]; exact (below_size (by repeat (first | (with_reducible first | exact HB.out | apply below_alloc | apply pw_below_drewN | apply below_drew1) | exact HB.out))) : w.heap.size ≤ gb894)); have n3_ := Aside0.mk ((by rw [hg]; exact (below_size (by repeat (first | (with_reducible first | exact HB.out | apply below_alloc | apply pw_below_drewN | apply below_drew1) | exact HB.out))) : w.heap.size ≤ gb894)); clear HB; have HB := n0_; have BK894 := n1_; have GW894 := n2_; have GE894 := n3_; clear n0_ n1_ n2_ n3_; clear hb hbox hg) | (go_at_call 16; (with_reducible refine (selfstabref01_All.calls (l1.length : Int) t895 _ A4.out).mono ?_); rintro e w' ⟨rfl, ⟨nd, rfl⟩⟩; (try first | exact ⟨rfl, _, World.drewN_drewN _ _ _⟩ | exact ⟨rfl, _, Eq.trans (World.drewN_drewN _ _ _) (congrArg (World.drewN _) (Nat.add_assoc _ _ _))⟩))); try go_wp2_with (first | ((with_reducible refine gate_dst (N := 3) rfl ?_); refine box_event ?hg (N := 3) ?hd (cs := #[.slice A0_0 l0_0.length c0_0, .slice A0_1 l0_1.length c0_1]) (t := 27) ?hr ?_; (case hd => rfl); (case hg => rfl); (case hr => first | (go_simp; done) | (go_simp; rfl)); intro gb894 hg w5 hbox hb; have n0_ := Aside0.mk (below_step (by repeat (first | (with_reducible first | exact HB.out | apply below_alloc | apply pw_below_drewN | apply below_drew1) | exact HB.out)) hb); have n1_ := Aside0.mk (hbox); have n2_ := Aside0.mk ((by rw [hg]; exact (below_size (by repeat (first | (with_reducible first | exact HB.out | apply below_alloc | apply pw_below_drewN | apply below_drew1) | exact HB.out))) : w.heap.size ≤ gb894)); have n3_ := Aside0.mk ((by rw [hg]; exact (below_size (by repeat (first | (with_reducible first | exact HB.out | apply below_alloc | apply pw_below_drewN | apply below_drew1) | exact HB.out))) : w.heap.size ≤ gb894)); clear HB; have HB := n0_; have BK894 := n1_; have GW894 := n2_; have GE894 := n3_; clear n0_ n1_ n2_ n3_; clear hb hbox hg) | (go_at_call 16; (with_reducible refine (selfstabref01_All.calls (l1.length : Int) t895 _ A4.out).mono ?_); rintro e w' ⟨rfl, ⟨nd, rfl⟩⟩; (try first | exact ⟨rfl, _, World.drewN_drewN _ _ _⟩ | exact ⟨rfl, _, Eq.trans (World.drewN_drewN _ _ _) (congrArg (World.drewN _) (Nat.add_assoc _ _ _))⟩))))
 go_loopg [7, 8] k (fun kq v7 v8 w' => ∃ (x7_1 : Int) (x8_1 : Int), v7 = .int .u32 x7_1 ∧ v8 = .int .i64 x8_1 ∧ Aside0 (selfstabref27_Highest.l0 kq l1 a2 x7_1 x8_1 l0_0 l0_1 = some r) ∧ Aside0 (kq ≤ k) ∧ Aside0 (w'.heap[gb894]? = some (.cells #[(.slice A0_0 l0_0.length c0_0), (.slice A0_1 l0_1.length c0_1)] 27 (0, 0))) ∧ Aside0 (Below w.heap.size w w'))
 case atStart => exact ⟨(t895), (0), (by first | rfl | (simp; done) | (simp [*]; done)), (by first | rfl | (simp; done) | (simp [*]; done)), H', ⟨Nat.le_refl _⟩, ⟨by (with_reducible repeat (first | refine blk_drewN ?_ _ | refine blk_drew ?_ | refine blk_alloc ?_ _)); exact BK894.out⟩, ⟨by repeat (first | (with_reducible first | exact HB.out | apply below_alloc | apply pw_below_drewN | apply below_drew1 | refine below_set ?_ GE894.out) | exact HB.out)⟩⟩
 case round =>
  clear H'
  try clear c1
  try clear p2
  obtain ⟨x7_1, x8_1, rfl, rfl, HA, HK1, BK894, HB⟩ := hrel
  cases gk with
  | zero => exact absurd HA.out (by simp [selfstabref27_Highest.l0])
  | succ k1 =>
   have H := HA.out
   clear HA
   simp only [selfstabref27_Highest.l0] at H
   by_cases c6 : x8_1 < (l1.length : Int)
   ·
    rw [if_pos c6] at H
    have c6b0 : decide (x8_1 < (l1.length : Int)) = true := decide_eq_true c6
    clear c6
    have H' := Aside0.mk H
    clear H
    go_wp2
    repeat (go_quiet (fail); try go_wp2)
    go_loopg [7, 9] k1 (fun kq v7 v9 w' => ∃ (x7_2 : Int) (x9_2 : Int), v7 = .int .u32 x7_2 ∧ v9 = .int .i64 x9_2 ∧ Aside0 (selfstabref27_Highest.l1 kq l1 a2 x7_2 x8_1 x9_2 l0_0 l0_1 = some r) ∧ Aside0 (kq ≤ k1) ∧ Aside0 (w'.heap[gb894]? = some (.cells #[(.slice A0_0 l0_0.length c0_0), (.slice A0_1 l0_1.length c0_1)] 27 (0, 0))) ∧ Aside0 (Below w.heap.size w w'))
    case atStart => exact ⟨(x7_1), (0), (by first | rfl | (simp; done) | (simp [*]; done)), (by first | rfl | (simp; done) | (simp [*]; done)), H', ⟨Nat.le_refl _⟩, ⟨by (with_reducible repeat (first | refine blk_drewN ?_ _ | refine blk_drew ?_ | refine blk_alloc ?_ _)); exact BK894.out⟩, ⟨by repeat (first | (with_reducible first | exact HB.out | apply below_alloc | apply pw_below_drewN | apply below_drew1 | refine below_set ?_ GE894.out) | exact HB.out)⟩⟩
    case round =>
     clear H'
     try clear c1
     try clear p2
     try clear c6
     try clear c6b0
     try clear p2
     obtain ⟨x7_2, x9_2, rfl, rfl, HA, HK2, BK894, HB⟩ := hrel
     cases gk with
     | zero => exact absurd HA.out (by simp [selfstabref27_Highest.l1])
     | succ k2 =>
      have H := HA.out
      clear HA
      simp only [selfstabref27_Highest.l1] at H
      by_cases c7 : 0 ≤ x8_1
      ·
       rw [if_pos c7] at H
       have c7b0 : decide (0 ≤ x8_1) = true := decide_eq_true c7
       clear c7
       by_cases c8 : x8_1 < (l0_1.length : Int)
       ·
        rw [if_pos c8] at H
        have c8b0 : decide (x8_1 < (l0_1.length : Int)) = true := decide_eq_true c8
        clear c8
        by_cases c9 : x9_2 < ((rd_L2 l0_1 x8_1).length : Int)
        ·
         rw [if_pos c9] at H
         have c9b0 : decide (x9_2 < ((rd_L2 l0_1 x8_1).length : Int)) = true := decide_eq_true c9
         clear c9
         by_cases c10 : 0 ≤ x9_2
         ·
          rw [if_pos c10] at H
          have c10b0 : decide (0 ≤ x9_2) = true := decide_eq_true c10
          clear c10
          by_cases c11 : 0 ≤ ((rd_T60 (rd_L2 l0_1 x8_1) x9_2).f0)
          ·
           rw [if_pos c11] at H
           have c11b0 : decide (0 ≤ ((rd_T60 (rd_L2 l0_1 x8_1) x9_2).f0)) = true := decide_eq_true c11
           clear c11
           by_cases c12 : ((rd_T60 (rd_L2 l0_1 x8_1) x9_2).f0) < (l1.length : Int)
           ·
            rw [if_pos c12] at H
            have c12b0 : decide (((rd_T60 (rd_L2 l0_1 x8_1) x9_2).f0) < (l1.length : Int)) = true := decide_eq_true c12
            clear c12
            by_cases c13 : 0 ≤ a2
            ·
             rw [if_pos c13] at H
             have c13b0 : decide (0 ≤ a2) = true := decide_eq_true c13
             clear c13
             by_cases c14 : a2 < ((rd_L3 l1 ((rd_T60 (rd_L2 l0_1 x8_1) x9_2).f0)).length : Int)
             ·
              rw [if_pos c14] at H
              have c14b0 : decide (a2 < ((rd_L3 l1 ((rd_T60 (rd_L2 l0_1 x8_1) x9_2).f0)).length : Int)) = true := decide_eq_true c14
              clear c14
              by_cases c15 : x8_1 < (l1.length : Int)
              ·
               rw [if_pos c15] at H
               have c15b0 : decide (x8_1 < (l1.length : Int)) = true := decide_eq_true c15
               clear c15
               by_cases c16 : a2 < ((rd_L3 l1 x8_1).length : Int)
               ·
                rw [if_pos c16] at H
                have c16b0 : decide (a2 < ((rd_L3 l1 x8_1).length : Int)) = true := decide_eq_true c16
                clear c16
                by_cases c17 : (rd (rd_L3 l1 ((rd_T60 (rd_L2 l0_1 x8_1) x9_2).f0)) a2) > (rd (rd_L3 l1 x8_1) a2)
                ·
                 rw [if_pos c17] at H
                 have c17b0 : decide ((rd (rd_L3 l1 x8_1) a2) < (rd (rd_L3 l1 ((rd_T60 (rd_L2 l0_1 x8_1) x9_2).f0)) a2)) = true := decide_eq_true c17
                 clear c17
                 obtain ⟨ji18, hji18⟩ : ∃ j_ : Int, (IntKind.u64.wrap (x8_1)) = j_ := ⟨_, rfl⟩
                 replace H : (if 0 ≤ (ji18) then (selfstabref27_Highest.l1 k2 l1 a2 (Go.bits .andNot .u32 x7_2 (shl .u32 1 (ji18))) x8_1 (wrap64 (x9_2 + 1)) l0_0 l0_1) else (none)) = some r := by first | (rw [hji18] at H; exact H) | (simp only [hji18] at H ⊢; exact H)
                 by_cases c19 : 0 ≤ (ji18)
                 ·
                  rw [if_pos c19] at H
                  have c19b0 := eq_true c19
                  have c19b1 : decide (0 ≤ (ji18)) = true := decide_eq_true c19
                  clear c19
                  obtain ⟨ji20, hji20⟩ : ∃ j_ : Int, (shl .u32 1 (ji18)) = j_ := ⟨_, rfl⟩
                  replace H : (selfstabref27_Highest.l1 k2 l1 a2 (Go.bits .andNot .u32 x7_2 (ji20)) x8_1 (wrap64 (x9_2 + 1)) l0_0 l0_1) = some r := by first | (rw [hji20] at H; exact H) | (simp only [hji20] at H ⊢; exact H)
                  have hji20_ : (IntKind.u32.wrap (1 * 2 ^ min (ji18).toNat 32)) = ji20 := hji20
                  have hji20z : (ji18) ≤ 32 → (IntKind.u32.wrap (1 * 2 ^ (ji18).toNat)) = ji20 := shl_small hji20
                  have hji20u : (IntKind.u32.wrap (2 ^ min (ji18).toNat 32)) = ji20 := by have h_ := hji20_; rw [Int.one_mul] at h_; exact h_
                  have hji20v : (ji18) ≤ 32 → (IntKind.u32.wrap (2 ^ (ji18).toNat)) = ji20 := fun hle_ => by have h_ := hji20z hle_; rw [Int.one_mul] at h_; exact h_
                  have H' := Aside0.mk H
                  clear H
                  have hcz21_0 : wr.cell? ⟨gb894, 0, none⟩ = some (.slice A0_0 l0_0.length c0_0) := (blk_cell BK894.out 0).trans rfl
                  have hcz21_1 : wr.cell? ⟨gb894, 1, none⟩ = some (.slice A0_1 l0_1.length c0_1) := (blk_cell BK894.out 1).trans rfl
                  have hfz21_0 := blk_frozen BK894.out 0
                  have hfz21_1 := blk_frozen BK894.out 1
                  have p896 : 0 ≤ (x8_1 : Int) := of_decide_eq_true (by first | (with_reducible assumption) | assumption)
                  have q896 : x8_1 < (l0_1.length : Int) := of_decide_eq_true (by first | (with_reducible assumption) | assumption)
                  obtain ⟨ad896, A896_0, c896_0, e896, hx896_0, hl896_0, hi896_0⟩ := at_L2 HR0_1.out x8_1 p896 q896
                  cases e896
                  replace hx896_0 := (HB.out.cell (World.block_lt_of_cell? w _ hx896_0)).trans hx896_0
                  have HR896_0 := Aside0.mk hi896_0
                  have HC896_0 := Aside0.mk hl896_0
                  clear hi896_0 hl896_0
                  replace p896 := eq_true p896
                  replace q896 := eq_true q896
                  have p897 : 0 ≤ (x8_1 : Int) := of_decide_eq_true (by first | (with_reducible assumption) | assumption)
                  have q897 : x8_1 < (l0_1.length : Int) := of_decide_eq_true (by first | (with_reducible assumption) | assumption)
                  obtain ⟨ad897, A897_0, c897_0, e897, hx897_0, hl897_0, hi897_0⟩ := at_L2 HR0_1.out x8_1 p897 q897
                  obtain rfl : ad896 = ad897 := (by injection e897)
                  replace hx897_0 := (HB.out.cell (World.block_lt_of_cell? w _ hx897_0)).trans hx897_0
                  have HR897_0 := Aside0.mk hi897_0
                  have HC897_0 := Aside0.mk hl897_0
                  clear hi897_0 hl897_0
                  replace p897 := eq_true p897
                  replace q897 := eq_true q897
                  have ea_ := Option.some.inj (hx896_0.symm.trans hx897_0)
                  injection ea_ with ea_ en_ ec_
                  subst ea_
                  subst ec_
                  clear en_
                  have p898 : 0 ≤ (x9_2 : Int) := of_decide_eq_true (by first | (with_reducible assumption) | assumption)
                  have q898 : x9_2 < ((rd_L2 l0_1 x8_1).length : Int) := of_decide_eq_true (by first | (with_reducible assumption) | assumption)
                  obtain ⟨ad898, e898, hx898_0, hx898_1⟩ := at_T60 HR897_0.out x9_2 p898 q898
                  cases e898
                  replace hx898_0 := (HB.out.cell (World.block_lt_of_cell? w _ hx898_0)).trans hx898_0
                  replace hx898_1 := (HB.out.cell (World.block_lt_of_cell? w _ hx898_1)).trans hx898_1
                  replace p898 := eq_true p898
                  replace q898 := eq_true q898
                  have p899 : 0 ≤ (((rd_T60 (rd_L2 l0_1 x8_1) x9_2).f0) : Int) := of_decide_eq_true (by first | (with_reducible assumption) | assumption)
                  have q899 : ((rd_T60 (rd_L2 l0_1 x8_1) x9_2).f0) < (l1.length : Int) := of_decide_eq_true (by first | (with_reducible assumption) | assumption)
                  obtain ⟨ad899, A899_0, c899_0, e899, hx899_0, hl899_0, hi899_0⟩ := at_L3 HR1.out ((rd_T60 (rd_L2 l0_1 x8_1) x9_2).f0) p899 q899
                  cases e899
                  replace hx899_0 := (HB.out.cell (World.block_lt_of_cell? w _ hx899_0)).trans hx899_0
                  have HR899_0 := Aside0.mk hi899_0
                  have HC899_0 := Aside0.mk hl899_0
                  clear hi899_0 hl899_0
                  replace p899 := eq_true p899
                  replace q899 := eq_true q899
                  have p900 : 0 ≤ (a2 : Int) := of_decide_eq_true (by first | (with_reducible assumption) | assumption)
                  have q900 : a2 < ((rd_L3 l1 ((rd_T60 (rd_L2 l0_1 x8_1) x9_2).f0)).length : Int) := of_decide_eq_true (by first | (with_reducible assumption) | assumption)
                  obtain ⟨ad900, e900, hx900_0⟩ := Kd.at_int HR899_0.out a2 p900 q900
                  cases e900
                  replace hx900_0 := (HB.out.cell (World.block_lt_of_cell? w _ hx900_0)).trans hx900_0
                  replace p900 := eq_true p900
                  replace q900 := eq_true q900
                  have p901 : 0 ≤ (x8_1 : Int) := of_decide_eq_true (by first | (with_reducible assumption) | assumption)
                  have q901 : x8_1 < (l1.length : Int) := of_decide_eq_true (by first | (with_reducible assumption) | assumption)
                  obtain ⟨ad901, A901_0, c901_0, e901, hx901_0, hl901_0, hi901_0⟩ := at_L3 HR1.out x8_1 p901 q901
                  obtain rfl : ad899 = ad901 := (by injection e901)
                  replace hx901_0 := (HB.out.cell (World.block_lt_of_cell? w _ hx901_0)).trans hx901_0
                  have HR901_0 := Aside0.mk hi901_0
                  have HC901_0 := Aside0.mk hl901_0
                  clear hi901_0 hl901_0
                  replace p901 := eq_true p901
                  replace q901 := eq_true q901
                  have p902 : 0 ≤ (a2 : Int) := of_decide_eq_true (by first | (with_reducible assumption) | assumption)
                  have q902 : a2 < ((rd_L3 l1 x8_1).length : Int) := of_decide_eq_true (by first | (with_reducible assumption) | assumption)
                  obtain ⟨ad902, e902, hx902_0⟩ := Kd.at_int HR901_0.out a2 p902 q902
                  cases e902
                  replace hx902_0 := (HB.out.cell (World.block_lt_of_cell? w _ hx902_0)).trans hx902_0
                  replace p902 := eq_true p902
                  replace q902 := eq_true q902
                  go_wp2
                  repeat (go_quiet (fail); try go_wp2)
                  go_roundg k2
                  case measure => have := HK1.out; have := HK2.out; omega
                  case rel => exact ⟨(Go.bits .andNot .u32 x7_2 (ji20)), (wrap64 (x9_2 + 1)), (by first | rfl | (simp; done) | (simp only [← hji20] <;> (first | rfl | simp)) | (simp [*]; done)), (by first | rfl | (simp; done) | (simp [*]; done)), H', ⟨by have := HK1.out; have := HK2.out; omega⟩, ⟨by (with_reducible repeat (first | refine blk_drewN ?_ _ | refine blk_drew ?_ | refine blk_alloc ?_ _)); exact BK894.out⟩, ⟨by repeat (first | (with_reducible first | exact HB.out | apply below_alloc | apply pw_below_drewN | apply below_drew1 | refine below_set ?_ GE894.out) | exact HB.out)⟩⟩
                 ·
                  rw [if_neg c19] at H
                  exact absurd H (by simp)
                ·
                 rw [if_neg c17] at H
                 have c17b0 : decide ((rd (rd_L3 l1 x8_1) a2) < (rd (rd_L3 l1 ((rd_T60 (rd_L2 l0_1 x8_1) x9_2).f0)) a2)) = false := decide_eq_false c17
                 clear c17
                 have H' := Aside0.mk H
                 clear H
                 have hcz22_0 : wr.cell? ⟨gb894, 0, none⟩ = some (.slice A0_0 l0_0.length c0_0) := (blk_cell BK894.out 0).trans rfl
                 have hcz22_1 : wr.cell? ⟨gb894, 1, none⟩ = some (.slice A0_1 l0_1.length c0_1) := (blk_cell BK894.out 1).trans rfl
                 have hfz22_0 := blk_frozen BK894.out 0
                 have hfz22_1 := blk_frozen BK894.out 1
                 have p896 : 0 ≤ (x8_1 : Int) := of_decide_eq_true (by first | (with_reducible assumption) | assumption)
                 have q896 : x8_1 < (l0_1.length : Int) := of_decide_eq_true (by first | (with_reducible assumption) | assumption)
                 obtain ⟨ad896, A896_0, c896_0, e896, hx896_0, hl896_0, hi896_0⟩ := at_L2 HR0_1.out x8_1 p896 q896
                 cases e896
                 replace hx896_0 := (HB.out.cell (World.block_lt_of_cell? w _ hx896_0)).trans hx896_0
                 have HR896_0 := Aside0.mk hi896_0
                 have HC896_0 := Aside0.mk hl896_0
                 clear hi896_0 hl896_0
                 replace p896 := eq_true p896
                 replace q896 := eq_true q896
                 have p897 : 0 ≤ (x8_1 : Int) := of_decide_eq_true (by first | (with_reducible assumption) | assumption)
                 have q897 : x8_1 < (l0_1.length : Int) := of_decide_eq_true (by first | (with_reducible assumption) | assumption)
                 obtain ⟨ad897, A897_0, c897_0, e897, hx897_0, hl897_0, hi897_0⟩ := at_L2 HR0_1.out x8_1 p897 q897
                 obtain rfl : ad896 = ad897 := (by injection e897)
                 replace hx897_0 := (HB.out.cell (World.block_lt_of_cell? w _ hx897_0)).trans hx897_0
                 have HR897_0 := Aside0.mk hi897_0
                 have HC897_0 := Aside0.mk hl897_0
                 clear hi897_0 hl897_0
                 replace p897 := eq_true p897
                 replace q897 := eq_true q897
                 have ea_ := Option.some.inj (hx896_0.symm.trans hx897_0)
                 injection ea_ with ea_ en_ ec_
                 subst ea_
                 subst ec_
                 clear en_
                 have p898 : 0 ≤ (x9_2 : Int) := of_decide_eq_true (by first | (with_reducible assumption) | assumption)
                 have q898 : x9_2 < ((rd_L2 l0_1 x8_1).length : Int) := of_decide_eq_true (by first | (with_reducible assumption) | assumption)
                 obtain ⟨ad898, e898, hx898_0, hx898_1⟩ := at_T60 HR897_0.out x9_2 p898 q898
                 cases e898
                 replace hx898_0 := (HB.out.cell (World.block_lt_of_cell? w _ hx898_0)).trans hx898_0
                 replace hx898_1 := (HB.out.cell (World.block_lt_of_cell? w _ hx898_1)).trans hx898_1
                 replace p898 := eq_true p898
                 replace q898 := eq_true q898
                 have p899 : 0 ≤ (((rd_T60 (rd_L2 l0_1 x8_1) x9_2).f0) : Int) := of_decide_eq_true (by first | (with_reducible assumption) | assumption)
                 have q899 : ((rd_T60 (rd_L2 l0_1 x8_1) x9_2).f0) < (l1.length : Int) := of_decide_eq_true (by first | (with_reducible assumption) | assumption)
                 obtain ⟨ad899, A899_0, c899_0, e899, hx899_0, hl899_0, hi899_0⟩ := at_L3 HR1.out ((rd_T60 (rd_L2 l0_1 x8_1) x9_2).f0) p899 q899
                 cases e899
                 replace hx899_0 := (HB.out.cell (World.block_lt_of_cell? w _ hx899_0)).trans hx899_0
                 have HR899_0 := Aside0.mk hi899_0
                 have HC899_0 := Aside0.mk hl899_0
                 clear hi899_0 hl899_0
                 replace p899 := eq_true p899
                 replace q899 := eq_true q899
                 have p900 : 0 ≤ (a2 : Int) := of_decide_eq_true (by first | (with_reducible assumption) | assumption)
                 have q900 : a2 < ((rd_L3 l1 ((rd_T60 (rd_L2 l0_1 x8_1) x9_2).f0)).length : Int) := of_decide_eq_true (by first | (with_reducible assumption) | assumption)
                 obtain ⟨ad900, e900, hx900_0⟩ := Kd.at_int HR899_0.out a2 p900 q900
                 cases e900
                 replace hx900_0 := (HB.out.cell (World.block_lt_of_cell? w _ hx900_0)).trans hx900_0
                 replace p900 := eq_true p900
                 replace q900 := eq_true q900
                 have p901 : 0 ≤ (x8_1 : Int) := of_decide_eq_true (by first | (with_reducible assumption) | assumption)
                 have q901 : x8_1 < (l1.length : Int) := of_decide_eq_true (by first | (with_reducible assumption) | assumption)
                 obtain ⟨ad901, A901_0, c901_0, e901, hx901_0, hl901_0, hi901_0⟩ := at_L3 HR1.out x8_1 p901 q901
                 obtain rfl : ad899 = ad901 := (by injection e901)
                 replace hx901_0 := (HB.out.cell (World.block_lt_of_cell? w _ hx901_0)).trans hx901_0
                 have HR901_0 := Aside0.mk hi901_0
                 have HC901_0 := Aside0.mk hl901_0
                 clear hi901_0 hl901_0
                 replace p901 := eq_true p901
                 replace q901 := eq_true q901
                 have p902 : 0 ≤ (a2 : Int) := of_decide_eq_true (by first | (with_reducible assumption) | assumption)
                 have q902 : a2 < ((rd_L3 l1 x8_1).length : Int) := of_decide_eq_true (by first | (with_reducible assumption) | assumption)
                 obtain ⟨ad902, e902, hx902_0⟩ := Kd.at_int HR901_0.out a2 p902 q902
                 cases e902
                 replace hx902_0 := (HB.out.cell (World.block_lt_of_cell? w _ hx902_0)).trans hx902_0
                 replace p902 := eq_true p902
                 replace q902 := eq_true q902
                 go_wp2
                 repeat (go_quiet (fail); try go_wp2)
                 go_roundg k2
                 case measure => have := HK1.out; have := HK2.out; omega
                 case rel => exact ⟨(x7_2), (wrap64 (x9_2 + 1)), (by first | rfl | (simp; done) | (simp [*]; done)), (by first | rfl | (simp; done) | (simp [*]; done)), H', ⟨by have := HK1.out; have := HK2.out; omega⟩, ⟨by (with_reducible repeat (first | refine blk_drewN ?_ _ | refine blk_drew ?_ | refine blk_alloc ?_ _)); exact BK894.out⟩, ⟨by repeat (first | (with_reducible first | exact HB.out | apply below_alloc | apply pw_below_drewN | apply below_drew1 | refine below_set ?_ GE894.out) | exact HB.out)⟩⟩
               ·
                rw [if_neg c16] at H
                exact absurd H (by simp)
              ·
               rw [if_neg c15] at H
               exact absurd H (by simp)
             ·
              rw [if_neg c14] at H
              exact absurd H (by simp)
            ·
             rw [if_neg c13] at H
             exact absurd H (by simp)
           ·
            rw [if_neg c12] at H
            exact absurd H (by simp)
          ·
           rw [if_neg c11] at H
           exact absurd H (by simp)
         ·
          rw [if_neg c10] at H
          exact absurd H (by simp)
        ·
         rw [if_neg c9] at H
         have c9b0 : decide (x9_2 < ((rd_L2 l0_1 x8_1).length : Int)) = false := decide_eq_false c9
         clear c9
         have H' := Aside0.mk H
         clear H
         have hcz23_0 : wr.cell? ⟨gb894, 0, none⟩ = some (.slice A0_0 l0_0.length c0_0) := (blk_cell BK894.out 0).trans rfl
         have hcz23_1 : wr.cell? ⟨gb894, 1, none⟩ = some (.slice A0_1 l0_1.length c0_1) := (blk_cell BK894.out 1).trans rfl
         have hfz23_0 := blk_frozen BK894.out 0
         have hfz23_1 := blk_frozen BK894.out 1
         have p896 : 0 ≤ (x8_1 : Int) := of_decide_eq_true (by first | (with_reducible assumption) | assumption)
         have q896 : x8_1 < (l0_1.length : Int) := of_decide_eq_true (by first | (with_reducible assumption) | assumption)
         obtain ⟨ad896, A896_0, c896_0, e896, hx896_0, hl896_0, hi896_0⟩ := at_L2 HR0_1.out x8_1 p896 q896
         cases e896
         replace hx896_0 := (HB.out.cell (World.block_lt_of_cell? w _ hx896_0)).trans hx896_0
         have HR896_0 := Aside0.mk hi896_0
         have HC896_0 := Aside0.mk hl896_0
         clear hi896_0 hl896_0
         replace p896 := eq_true p896
         replace q896 := eq_true q896
         go_wp2
         repeat (go_quiet (fail); try go_wp2)
         go_roundg k2
         case measure => have := HK1.out; have := HK2.out; omega
         case rel => exact ⟨(x7_2), (wrap64 (x8_1 + 1)), (by first | rfl | (simp; done) | (simp [*]; done)), (by first | rfl | (simp; done) | (simp [*]; done)), H', ⟨by have := HK1.out; have := HK2.out; omega⟩, ⟨by (with_reducible repeat (first | refine blk_drewN ?_ _ | refine blk_drew ?_ | refine blk_alloc ?_ _)); exact BK894.out⟩, ⟨by repeat (first | (with_reducible first | exact HB.out | apply below_alloc | apply pw_below_drewN | apply below_drew1 | refine below_set ?_ GE894.out) | exact HB.out)⟩⟩
       ·
        rw [if_neg c8] at H
        exact absurd H (by simp)
      ·
       rw [if_neg c7] at H
       exact absurd H (by simp)
   ·
    rw [if_neg c6] at H
    have c6b0 : decide (x8_1 < (l1.length : Int)) = false := decide_eq_false c6
    clear c6
    obtain rfl := Option.some.inj H
    go_wp2
    repeat (go_quiet (fail); try go_wp2)
    go_ret
    exact ⟨by first | rfl | (simp [errW_none, errW_some] <;> rfl) | (simp [*, errW_none, errW_some] <;> rfl), by repeat (first | (with_reducible first | exact HB.out | apply below_alloc | apply pw_below_drewN | apply below_drew1 | refine below_set ?_ GE894.out) | exact HB.out)⟩
end Go.Proofs.YthapikakneikbaaG
namespace Go.Proofs.YthapikakneikbaaG
open Go.RowKit Go.Proofs.YthapikakneikbaaW.PrintWords Go.Proofs.YthapikakneikbaaW.PrintLast Go.Proofs.YthapikakneikbaaW.PrintMore
attribute [local go_sem] max2_int min2_int max_two min_two max_three min_three max_four min_four   -- for this text's walks alone
set_option linter.unusedVariables false
set_option linter.unusedSimpArgs false
def selfstabref27_Centers.f (k : Nat) (l0_0 : List Int) (l0_1 : List (List (S60))) (l1 : List (List Int)) : Option (Int) := (selfstabref27_Fit.f k l0_0 l0_1).bind fun t904 => (if t904 = true then ((selfstabref27_Vars.f).bind fun t905 => ((selfstabref23_Config.f l0_0 l0_1 l1 t905).bind fun t908 => (if t908 = true then ((selfstabref27_Highest.f k l0_0 l0_1 l1 0).bind fun t909 => (some t909)) else (some 0)))) else (some 0))
theorem selfstabref27_Centers.mono : ∀ a0 a1 a2 k, LeO (selfstabref27_Centers.f k a0 a1 a2) (selfstabref27_Centers.f (k + 1) a0 a1 a2) := by
 intro a0 a1 a2 k
 unfold selfstabref27_Centers.f
 repeat' first
   | (with_reducible exact selfstabref27_Fit.mono _ _ _)
   | (with_reducible exact selfstabref27_Highest.mono _ _ _ _ _)
   | (with_reducible exact LeO.refl _)
   | (with_reducible exact LeO.none _)
   | (with_reducible refine LeO.ite ?_ ?_)
   | (with_reducible refine LeO.bind ?_ (fun _ => ?_))
   | exact selfstabref27_Fit.mono _ _ _
   | exact selfstabref27_Highest.mono _ _ _ _ _
   | exact LeO.none _
   | refine LeO.ite ?_ ?_
   | refine LeO.bind ?_ (fun _ => ?_)
def selfstabref27_Centers.T1 : Bool × List (List Nat × List Nat) := (true, [([], []), ([0], [0]), ([1], [1]), ([2, 1], [2]), ([3], [3]), ([3], [3]), ([3, 3], [3]), ([4, 5, 6, 6, 3], [3, 4, 5, 6]), ([7, 3], [3, 7]), ([3, 8], [3, 8])])
def selfstabref27_Centers.B1 : List Nat := [0, 1, 3, 7, 15, 15, 15, 127, 255, 511]
theorem selfstabref27_Centers.tab1 : rtab .any (opsOf Try.f66 1) = selfstabref27_Centers.T1 := by kernel_rfl
theorem selfstabref27_Centers.bits1 : waitsOk selfstabref27_Centers.T1.2 selfstabref27_Centers.B1 = true := by kernel_rfl
set_option maxHeartbeats 8000000 in
set_option maxRecDepth 100000 in
theorem selfstabref27_Centers.calls (k : Nat) (A0_0 : Option Addr) (c0_0 : Nat) (l0_0 : List Int) (A0_1 : Option Addr) (c0_1 : Nat) (l0_1 : List (List (S60))) (A1 : Option Addr) (c1 : Nat) (l1 : List (List Int)) (r : Int) (w : World) (hr0_0 : Kd.C (Kd.int .i64) w A0_0 l0_0.length l0_0) (hc0_0 : l0_0.length ≤ c0_0) (hr0_1 : Kd.C (Kd.slice 60 k60) w A0_1 l0_1.length l0_1) (hc0_1 : l0_1.length ≤ c0_1) (hr1 : Kd.C (Kd.slice 3 (Kd.int .i64)) w A1 l1.length l1) (hc1 : l1.length ≤ c1) (h : selfstabref27_Centers.f k l0_0 l0_1 l1 = some r) :
  Calls Try.prog 66 #[.agg #[.slice A0_0 l0_0.length c0_0, .slice A0_1 l0_1.length c0_1], .slice A1 l1.length c1] w fun e w' => e = .returned (.int .u32 r) ∧ Below w.heap.size w w' := by
 have hu27 := Try.underlying27
 have HR0_0 := Aside0.mk hr0_0
 have HC0_0 := Aside0.mk hc0_0
 clear hr0_0 hc0_0
 have HR0_1 := Aside0.mk hr0_1
 have HC0_1 := Aside0.mk hc0_1
 clear hr0_1 hc0_1
 have HR1 := Aside0.mk hr1
 have HC1 := Aside0.mk hc1
 clear hr1 hc1
 have HB := Aside0.mk (Below.refl w.heap.size w)
 have H : ((selfstabref27_Fit.f k l0_0 l0_1).bind fun t904 => (if t904 = true then ((selfstabref27_Vars.f).bind fun t905 => ((selfstabref23_Config.f l0_0 l0_1 l1 t905).bind fun t908 => (if t908 = true then ((selfstabref27_Highest.f k l0_0 l0_1 l1 0).bind fun t909 => (some t909)) else (some 0)))) else (some 0))) = some r := h
 clear h
 replace H := Option.bind_eq_some_iff.mp H
 obtain ⟨t904, A30, H⟩ := H
 replace H : (if t904 = true then ((selfstabref27_Vars.f).bind fun t905 => ((selfstabref23_Config.f l0_0 l0_1 l1 t905).bind fun t908 => (if t908 = true then ((selfstabref27_Highest.f k l0_0 l0_1 l1 0).bind fun t909 => (some t909)) else (some 0)))) else (some 0)) = some r := H
 have A3 := Aside0.mk A30
 clear A30
 by_cases c4 : t904 = true
 ·
  subst c4
  have H1 : ((selfstabref27_Vars.f).bind fun t905 => ((selfstabref23_Config.f l0_0 l0_1 l1 t905).bind fun t908 => (if t908 = true then ((selfstabref27_Highest.f k l0_0 l0_1 l1 0).bind fun t909 => (some t909)) else (some 0)))) = some r := by rw [if_pos rfl] at H; exact H
  clear H
  have H := H1
  clear H1
  replace H := Option.bind_eq_some_iff.mp H
  obtain ⟨t905, A50, H⟩ := H
  replace H : ((selfstabref23_Config.f l0_0 l0_1 l1 t905).bind fun t908 => (if t908 = true then ((selfstabref27_Highest.f k l0_0 l0_1 l1 0).bind fun t909 => (some t909)) else (some 0))) = some r := H
  have A5 := Aside0.mk A50
  clear A50
  replace H := Option.bind_eq_some_iff.mp H
  obtain ⟨t908, A60, H⟩ := H
  replace H : (if t908 = true then ((selfstabref27_Highest.f k l0_0 l0_1 l1 0).bind fun t909 => (some t909)) else (some 0)) = some r := H
  have A6 := Aside0.mk A60
  clear A60
  by_cases c7 : t908 = true
  ·
   subst c7
   have H1 : ((selfstabref27_Highest.f k l0_0 l0_1 l1 0).bind fun t909 => (some t909)) = some r := by rw [if_pos rfl] at H; exact H
   clear H
   have H := H1
   clear H1
   replace H := Option.bind_eq_some_iff.mp H
   obtain ⟨t909, A80, H⟩ := H
   replace H : (some t909) = some r := H
   have A8 := Aside0.mk A80
   clear A80
   obtain rfl := Option.some.inj H
   go_enter Try.func66, Try.ntmps66
   try go_wp2_with (first | ((with_reducible refine gate_dst (N := 2) rfl ?_); refine box_event ?hg (N := 2) ?hd (cs := #[.slice A0_0 l0_0.length c0_0, .slice A0_1 l0_1.length c0_1]) (t := 27) ?hr ?_; (case hd => rfl); (case hg => rfl); (case hr => first | (go_simp; done) | (go_simp; rfl)); intro gb903 hg w9 hbox hb; have n0_ := Aside0.mk (below_step (by repeat (first | (with_reducible first | exact HB.out | apply below_alloc | apply pw_below_drewN | apply below_drew1) | exact HB.out)) hb); have n1_ := Aside0.mk (hbox); have n2_ := Aside0.mk ((by rw [hg]; exact (below_size (by repeat (first | (with_reducible first | exact HB.out | apply below_alloc | apply pw_below_drewN | apply below_drew1) | exact HB.out))) : w.heap.size ≤ gb903)); have n3_ := Aside0.mk ((by rw [hg]; exact (below_size (by repeat (first | (with_reducible first | exact HB.out | apply below_alloc | apply pw_below_drewN | apply below_drew1) | exact HB.out))) : w.heap.size ≤ gb903)); clear HB; have HB := n0_; have BK903 := n1_; have GW903 := n2_; have GE903 := n3_; clear n0_ n1_ n2_ n3_; clear hb hbox hg))
   have n0_ := Aside0.mk (blk_drew BK903.out)
   have n1_ := Aside0.mk (below_drew1 HB.out)
   clear BK903
   clear HB
   have BK903 := n0_
   have HB := n1_
   clear n0_ n1_
   refine start_ (n := 10) (S := fun w' => w'.cell? ⟨gb903, 0, none⟩ = some (.slice A0_0 l0_0.length c0_0) ∧ w'.cell? ⟨gb903, 1, none⟩ = some (.slice A0_1 l0_1.length c0_1)) (ds := []) #[false, false, false, false, false, false, false, false, false, false] (by kernel_rfl) rfl rfl ⟨(blk_cell BK903.out 0).trans rfl, (blk_cell BK903.out 1).trans rfl⟩ (fun hHeld => ?_); refine with_tabW selfstabref27_Centers.tab1 selfstabref27_Centers.bits1 (fun HT_ HW_ => ?_)
   generalize w9.drew = w10 at BK903 HB hHeld ⊢
   refine take_ (i := 0) (N := some 5) (v := ?_) (a' := ?_) #[true, false, false, false, false, false, false, false, false, false] rfl rfl (take_ofW HT_.out HW_.out (by kernel_rfl)) (fun _ _ _ h => h) (Or.inl ⟨by rfl, ?_⟩) hHeld ?_ ?_
   rotate_left
   ·
    rintro w' ⟨s0, s1⟩
    go_simp
    with_reducible rfl
   rotate_left
   ·
    simp only [Act.put, List.setIfInBounds_toArray, List.set_cons_zero, List.set_cons_succ, i64_w, i32_w]
    rfl
   refine one_ (i := 1) (N := some 6) #[true, true, false, false, false, false, false, false, false, false] rfl rfl (one_of HT_.out (by kernel_rfl)) (by decide) (fun K hK => ?_)
   refine goes_ Try.func60 (by kernel_rfl) rfl #[.agg #[.slice A0_0 l0_0.length c0_0, .slice A0_1 l0_1.length c0_1]] (by rfl) rfl rfl (by (try simp only [List.map_toArray, List.map_cons, List.map_nil]); first | done | rfl | (simp only [List.length_drop, List.length_take]; rfl)) ?_
   with_reducible refine (selfstabref27_Fit.calls k _ _ l0_0 _ _ l0_1 true _ ?side1 ?side2 ?side3 ?side4 A3.out).mono ?_
   (case side1 => repeat (first | exact (Kd.C_below HR0_0.out HB.out) | (with_reducible refine Kd.C_alloc ?_ _) | (with_reducible refine Kd.C_drewN ?_ _) | (with_reducible refine Kd.C_drew ?_)))
   (case side2 => exact HC0_0.out)
   (case side3 => repeat (first | exact (Kd.C_below HR0_1.out HB.out) | (with_reducible refine Kd.C_alloc ?_ _) | (with_reducible refine Kd.C_drewN ?_ _) | (with_reducible refine Kd.C_drew ?_)))
   (case side4 => exact HC0_1.out)
   rintro e w11 ⟨rfl, hb⟩
   refine ⟨_, rfl, ?_⟩
   have n0_ := Aside0.mk (blk_below (g := gb903) (o := .cells #[.slice A0_0 l0_0.length c0_0, .slice A0_1 l0_1.length c0_1] 27 (0, 0)) (by (with_reducible repeat (first | refine blk_drewN ?_ _ | refine blk_drew ?_ | refine blk_alloc ?_ _)); exact BK903.out) hb)
   have n1_ := Aside0.mk (below_step (by repeat (first | (with_reducible first | exact HB.out | apply below_alloc | apply pw_below_drewN | apply below_drew1 | refine below_set ?_ GE903.out) | exact HB.out)) hb)
   clear BK903
   clear HB
   have BK903 := n0_
   have HB := n1_
   clear n0_ n1_
   (try clear hb)
   (try clear hb2)
   (try clear hk)
   (try clear hi)
   refine hK.out _ _ ⟨(blk_cell BK903.out 0).trans rfl, (blk_cell BK903.out 1).trans rfl⟩ (fun hHeld => ?_)
   clear hK K
   refine norm_ (a' := ?_) ?_ ?_
   rotate_left
   ·
    show Act.put _ (some 6) _ = _
    simp only [Act.put, List.setIfInBounds_toArray, List.set_cons_zero, List.set_cons_succ, i64_w, i32_w]
    rfl
   refine pure_ (i := 2) (N := some 7) (v := ?_) (a' := ?_) #[true, true, true, false, false, false, false, false, false, false] rfl rfl (any_of HT_.out (by kernel_rfl)) (fun _ _ _ h => h) (Or.inl ⟨by rfl, ?_⟩) ?_ ?_
   rotate_left
   ·
    intro w'
    go_simp
    with_reducible rfl
   rotate_left
   ·
    simp only [Act.put, List.setIfInBounds_toArray, List.set_cons_zero, List.set_cons_succ, i64_w, i32_w]
    rfl
   refine pure_ (i := 3) (N := some 8) (v := ?_) (a' := ?_) #[true, true, true, true, false, false, false, false, false, false] rfl rfl (any_of HT_.out (by kernel_rfl)) (fun _ _ _ h => h) (Or.inl ⟨by rfl, ?_⟩) ?_ ?_
   rotate_left
   ·
    intro w'
    go_simp
    with_reducible rfl
   rotate_left
   ·
    simp only [Act.put, List.setIfInBounds_toArray, List.set_cons_zero, List.set_cons_succ, i64_w, i32_w]
    rfl
   refine pure_ (i := 5) (N := some 10) (v := ?_) (a' := ?_) #[true, true, true, true, false, true, false, false, false, false] rfl rfl (any_of HT_.out (by kernel_rfl)) (fun _ _ _ h => h) (Or.inl ⟨by rfl, ?_⟩) ?_ ?_
   rotate_left
   ·
    intro w'
    go_simp
    with_reducible rfl
   rotate_left
   ·
    simp only [Act.put, List.setIfInBounds_toArray, List.set_cons_zero, List.set_cons_succ, i64_w, i32_w]
    rfl
   refine take_ (i := 4) (N := some 9) (v := ?_) (a' := ?_) #[true, true, true, true, true, true, false, false, false, false] rfl rfl (take_ofW HT_.out HW_.out (by kernel_rfl)) (fun _ _ _ h => h) (Or.inl ⟨by rfl, ?_⟩) hHeld ?_ ?_
   rotate_left
   ·
    rintro w' ⟨s0, s1⟩
    go_simp
    with_reducible rfl
   rotate_left
   ·
    simp only [Act.put, List.setIfInBounds_toArray, List.set_cons_zero, List.set_cons_succ, i64_w, i32_w]
    rfl
   refine one_ (i := 6) (N := some 11) #[true, true, true, true, true, true, true, false, false, false] rfl rfl (one_of HT_.out (by kernel_rfl)) (by decide) (fun K hK => ?_)
   refine goes_ Try.func108 (by kernel_rfl) rfl #[] (by rfl) rfl rfl (by (try simp only [List.map_toArray, List.map_cons, List.map_nil]); first | done | rfl | (simp only [List.length_drop, List.length_take]; rfl)) ?_
   with_reducible refine (selfstabref27_Vars.calls  t905 _ A5.out).mono ?_
   rintro e w12 ⟨v906, rfl, ho0, hb⟩
   refine ⟨_, rfl, ?_⟩
   have n0_ := Aside0.mk (Kd.R_lower ho0 (below_size (by repeat (first | (with_reducible first | exact HB.out | apply below_alloc | apply pw_below_drewN | apply below_drew1 | refine below_set ?_ GE903.out) | exact HB.out))))
   have n1_ := Aside0.mk (blk_below (g := gb903) (o := .cells #[.slice A0_0 l0_0.length c0_0, .slice A0_1 l0_1.length c0_1] 27 (0, 0)) (by (with_reducible repeat (first | refine blk_drewN ?_ _ | refine blk_drew ?_ | refine blk_alloc ?_ _)); exact BK903.out) hb)
   have n2_ := Aside0.mk (below_step (by repeat (first | (with_reducible first | exact HB.out | apply below_alloc | apply pw_below_drewN | apply below_drew1 | refine below_set ?_ GE903.out) | exact HB.out)) hb)
   clear BK903
   clear HB
   have HO907 := n0_
   have BK903 := n1_
   have HB := n2_
   clear n0_ n1_ n2_
   (try clear hb)
   (try clear hb2)
   (try clear hk)
   (try clear hi)
   (try clear ho0)
   obtain ⟨Ao13, co13, eo13⟩ := Kd.R_slice HO907.out
   (first | subst eo13 | (injection eo13 with f1_ f2_ f3_; have f4_ := f1_.symm; have f5_ := f3_.symm; clear f1_ f2_ f3_; subst f4_; subst f5_))
   refine hK.out _ _ ⟨(blk_cell BK903.out 0).trans rfl, (blk_cell BK903.out 1).trans rfl⟩ (fun hHeld => ?_)
   clear hK K
   refine norm_ (a' := ?_) ?_ ?_
   rotate_left
   ·
    show Act.put _ (some 11) _ = _
    simp only [Act.put, List.setIfInBounds_toArray, List.set_cons_zero, List.set_cons_succ, i64_w, i32_w]
    rfl
   refine one_ (i := 7) (N := some 12) #[true, true, true, true, true, true, true, true, false, false] rfl rfl (one_of HT_.out (by kernel_rfl)) (by decide) (fun K hK => ?_)
   refine goes_ Try.func83 (by kernel_rfl) rfl #[.agg #[.slice A0_0 l0_0.length c0_0, .slice A0_1 l0_1.length c0_1], .slice A1 l1.length c1, .slice Ao13 t905.length co13] (by rfl) rfl rfl (by (try simp only [List.map_toArray, List.map_cons, List.map_nil]); first | done | rfl | (simp only [List.length_drop, List.length_take]; rfl)) ?_
   with_reducible refine (selfstabref23_Config.calls _ _ l0_0 _ _ l0_1 _ _ l1 _ _ t905 true _ ?side1 ?side2 ?side3 ?side4 ?side5 ?side6 ?side7 ?side8 A6.out).mono ?_
   (case side1 => repeat (first | exact (Kd.C_below HR0_0.out HB.out) | (with_reducible refine Kd.C_alloc ?_ _) | (with_reducible refine Kd.C_drewN ?_ _) | (with_reducible refine Kd.C_drew ?_)))
   (case side2 => exact HC0_0.out)
   (case side3 => repeat (first | exact (Kd.C_below HR0_1.out HB.out) | (with_reducible refine Kd.C_alloc ?_ _) | (with_reducible refine Kd.C_drewN ?_ _) | (with_reducible refine Kd.C_drew ?_)))
   (case side4 => exact HC0_1.out)
   (case side5 => repeat (first | exact (Kd.C_below HR1.out HB.out) | (with_reducible refine Kd.C_alloc ?_ _) | (with_reducible refine Kd.C_drewN ?_ _) | (with_reducible refine Kd.C_drew ?_)))
   (case side6 => exact HC1.out)
   (case side7 => repeat (first | exact (Kd.R_reads' HO907.out).2.2 | (with_reducible refine Kd.C_alloc ?_ _) | (with_reducible refine Kd.C_drewN ?_ _) | (with_reducible refine Kd.C_drew ?_)))
   (case side8 => exact (Kd.R_reads' HO907.out).2.1)
   rintro e w14 ⟨rfl, hb⟩
   refine ⟨_, rfl, ?_⟩
   have n0_ := Aside0.mk (Kd.R_below (by (with_reducible repeat (first | apply Kd.R_alloc | apply Kd.R_drewN | apply Kd.R_drew)); exact HO907.out) hb)
   have n1_ := Aside0.mk (blk_below (g := gb903) (o := .cells #[.slice A0_0 l0_0.length c0_0, .slice A0_1 l0_1.length c0_1] 27 (0, 0)) (by (with_reducible repeat (first | refine blk_drewN ?_ _ | refine blk_drew ?_ | refine blk_alloc ?_ _)); exact BK903.out) hb)
   have n2_ := Aside0.mk (below_step (by repeat (first | (with_reducible first | exact HB.out | apply below_alloc | apply pw_below_drewN | apply below_drew1 | refine below_set ?_ GE903.out) | exact HB.out)) hb)
   clear HO907
   clear BK903
   clear HB
   have HO907 := n0_
   have BK903 := n1_
   have HB := n2_
   clear n0_ n1_ n2_
   (try clear hb)
   (try clear hb2)
   (try clear hk)
   (try clear hi)
   refine hK.out _ _ ⟨(blk_cell BK903.out 0).trans rfl, (blk_cell BK903.out 1).trans rfl⟩ (fun hHeld => ?_)
   clear hK K
   refine norm_ (a' := ?_) ?_ ?_
   rotate_left
   ·
    show Act.put _ (some 12) _ = _
    simp only [Act.put, List.setIfInBounds_toArray, List.set_cons_zero, List.set_cons_succ, i64_w, i32_w]
    rfl
   refine pure_ (i := 8) (N := some 13) (v := ?_) (a' := ?_) #[true, true, true, true, true, true, true, true, true, false] rfl rfl (any_of HT_.out (by kernel_rfl)) (fun _ _ _ h => h) (Or.inl ⟨by rfl, ?_⟩) ?_ ?_
   rotate_left
   ·
    intro w'
    go_simp
    with_reducible rfl
   rotate_left
   ·
    simp only [Act.put, List.setIfInBounds_toArray, List.set_cons_zero, List.set_cons_succ, i64_w, i32_w]
    rfl
   refine pure_ (i := 9) (N := some 14) (v := ?_) (a' := ?_) #[true, true, true, true, true, true, true, true, true, true] rfl rfl (any_of HT_.out (by kernel_rfl)) (fun _ _ _ h => h) (Or.inl ⟨by rfl, ?_⟩) ?_ ?_
   rotate_left
   ·
    intro w'
    go_simp
    with_reducible rfl
   rotate_left
   ·
    simp only [Act.put, List.setIfInBounds_toArray, List.set_cons_zero, List.set_cons_succ, i64_w, i32_w]
    rfl
   refine done_ (done_of HT_.out (by kernel_rfl)) ?_
   have hcz15_0 : w14.cell? ⟨gb903, 0, none⟩ = some (.slice A0_0 l0_0.length c0_0) := (blk_cell BK903.out 0).trans rfl
   have hcz15_1 : w14.cell? ⟨gb903, 1, none⟩ = some (.slice A0_1 l0_1.length c0_1) := (blk_cell BK903.out 1).trans rfl
   have hfz15_0 := blk_frozen BK903.out 0
   have hfz15_1 := blk_frozen BK903.out 1
   try go_wp2_with (first | ((with_reducible refine gate_callee (f := 114) rfl ?_); refine goesL_ (some 17) rfl rfl Try.func114 (by kernel_rfl) rfl #[.agg #[.slice A0_0 l0_0.length c0_0, .slice A0_1 l0_1.length c0_1], .slice A1 l1.length c1, .int .i64 0] rfl (by (try simp only [List.map_toArray, List.map_cons, List.map_nil]); first | done | rfl | (simp only [List.length_drop, List.length_take]; rfl)) ?_; (with_reducible refine (selfstabref27_Highest.calls k _ _ l0_0 _ _ l0_1 _ _ l1 0 t909 _ ?side1 ?side2 ?side3 ?side4 ?side5 ?side6 A8.out).mono ?_); (case side1 => repeat (first | exact (Kd.C_below HR0_0.out HB.out) | (with_reducible refine Kd.C_alloc ?_ _) | (with_reducible refine Kd.C_drewN ?_ _) | (with_reducible refine Kd.C_drew ?_))); (case side2 => exact HC0_0.out); (case side3 => repeat (first | exact (Kd.C_below HR0_1.out HB.out) | (with_reducible refine Kd.C_alloc ?_ _) | (with_reducible refine Kd.C_drewN ?_ _) | (with_reducible refine Kd.C_drew ?_))); (case side4 => exact HC0_1.out); (case side5 => repeat (first | exact (Kd.C_below HR1.out HB.out) | (with_reducible refine Kd.C_alloc ?_ _) | (with_reducible refine Kd.C_drewN ?_ _) | (with_reducible refine Kd.C_drew ?_))); (case side6 => exact HC1.out); rintro e w16 ⟨rfl, hb⟩; refine ⟨_, rfl, ?_⟩; have n0_ := Aside0.mk (Kd.R_below (by (with_reducible repeat (first | apply Kd.R_alloc | apply Kd.R_drewN | apply Kd.R_drew)); exact HO907.out) hb); have n1_ := Aside0.mk (blk_below (g := gb903) (o := .cells #[.slice A0_0 l0_0.length c0_0, .slice A0_1 l0_1.length c0_1] 27 (0, 0)) (by (with_reducible repeat (first | refine blk_drewN ?_ _ | refine blk_drew ?_ | refine blk_alloc ?_ _)); exact BK903.out) hb); have n2_ := Aside0.mk (below_step (by repeat (first | (with_reducible first | exact HB.out | apply below_alloc | apply pw_below_drewN | apply below_drew1 | refine below_set ?_ GE903.out) | exact HB.out)) hb); clear HO907; clear BK903; clear HB; have HO907 := n0_; have BK903 := n1_; have HB := n2_; clear n0_ n1_ n2_; (try clear hb); (try clear hb2); (try clear hk); (try clear hi)))
   go_ret
   exact ⟨by first | rfl | (simp [errW_none, errW_some] <;> rfl) | (simp [*, errW_none, errW_some] <;> rfl), by repeat (first | (with_reducible first | exact HB.out | apply below_alloc | apply pw_below_drewN | apply below_drew1 | refine below_set ?_ GE903.out) | exact HB.out)⟩
  ·
   replace c7 := Bool.eq_false_iff.mpr c7
   subst c7
   have H1 : (some 0) = some r := by rw [if_neg (show ¬ (false = true) by decide)] at H; exact H
   clear H
   have H := H1
   clear H1
   obtain rfl := Option.some.inj H
   go_enter Try.func66, Try.ntmps66
   try go_wp2_with (first | ((with_reducible refine gate_dst (N := 2) rfl ?_); refine box_event ?hg (N := 2) ?hd (cs := #[.slice A0_0 l0_0.length c0_0, .slice A0_1 l0_1.length c0_1]) (t := 27) ?hr ?_; (case hd => rfl); (case hg => rfl); (case hr => first | (go_simp; done) | (go_simp; rfl)); intro gb903 hg w17 hbox hb; have n0_ := Aside0.mk (below_step (by repeat (first | (with_reducible first | exact HB.out | apply below_alloc | apply pw_below_drewN | apply below_drew1) | exact HB.out)) hb); have n1_ := Aside0.mk (hbox); have n2_ := Aside0.mk ((by rw [hg]; exact (below_size (by repeat (first | (with_reducible first | exact HB.out | apply below_alloc | apply pw_below_drewN | apply below_drew1) | exact HB.out))) : w.heap.size ≤ gb903)); have n3_ := Aside0.mk ((by rw [hg]; exact (below_size (by repeat (first | (with_reducible first | exact HB.out | apply below_alloc | apply pw_below_drewN | apply below_drew1) | exact HB.out))) : w.heap.size ≤ gb903)); clear HB; have HB := n0_; have BK903 := n1_; have GW903 := n2_; have GE903 := n3_; clear n0_ n1_ n2_ n3_; clear hb hbox hg))
   have n0_ := Aside0.mk (blk_drew BK903.out)
   have n1_ := Aside0.mk (below_drew1 HB.out)
   clear BK903
   clear HB
   have BK903 := n0_
   have HB := n1_
   clear n0_ n1_
   refine start_ (n := 10) (S := fun w' => w'.cell? ⟨gb903, 0, none⟩ = some (.slice A0_0 l0_0.length c0_0) ∧ w'.cell? ⟨gb903, 1, none⟩ = some (.slice A0_1 l0_1.length c0_1)) (ds := []) #[false, false, false, false, false, false, false, false, false, false] (by kernel_rfl) rfl rfl ⟨(blk_cell BK903.out 0).trans rfl, (blk_cell BK903.out 1).trans rfl⟩ (fun hHeld => ?_); refine with_tabW selfstabref27_Centers.tab1 selfstabref27_Centers.bits1 (fun HT_ HW_ => ?_)
   generalize w17.drew = w18 at BK903 HB hHeld ⊢
   refine take_ (i := 0) (N := some 5) (v := ?_) (a' := ?_) #[true, false, false, false, false, false, false, false, false, false] rfl rfl (take_ofW HT_.out HW_.out (by kernel_rfl)) (fun _ _ _ h => h) (Or.inl ⟨by rfl, ?_⟩) hHeld ?_ ?_
   rotate_left
   ·
    rintro w' ⟨s0, s1⟩
    go_simp
    with_reducible rfl
   rotate_left
   ·
    simp only [Act.put, List.setIfInBounds_toArray, List.set_cons_zero, List.set_cons_succ, i64_w, i32_w]
    rfl
   refine one_ (i := 1) (N := some 6) #[true, true, false, false, false, false, false, false, false, false] rfl rfl (one_of HT_.out (by kernel_rfl)) (by decide) (fun K hK => ?_)
   refine goes_ Try.func60 (by kernel_rfl) rfl #[.agg #[.slice A0_0 l0_0.length c0_0, .slice A0_1 l0_1.length c0_1]] (by rfl) rfl rfl (by (try simp only [List.map_toArray, List.map_cons, List.map_nil]); first | done | rfl | (simp only [List.length_drop, List.length_take]; rfl)) ?_
   with_reducible refine (selfstabref27_Fit.calls k _ _ l0_0 _ _ l0_1 true _ ?side1 ?side2 ?side3 ?side4 A3.out).mono ?_
   (case side1 => repeat (first | exact (Kd.C_below HR0_0.out HB.out) | (with_reducible refine Kd.C_alloc ?_ _) | (with_reducible refine Kd.C_drewN ?_ _) | (with_reducible refine Kd.C_drew ?_)))
   (case side2 => exact HC0_0.out)
   (case side3 => repeat (first | exact (Kd.C_below HR0_1.out HB.out) | (with_reducible refine Kd.C_alloc ?_ _) | (with_reducible refine Kd.C_drewN ?_ _) | (with_reducible refine Kd.C_drew ?_)))
   (case side4 => exact HC0_1.out)
   rintro e w19 ⟨rfl, hb⟩
   refine ⟨_, rfl, ?_⟩
   have n0_ := Aside0.mk (blk_below (g := gb903) (o := .cells #[.slice A0_0 l0_0.length c0_0, .slice A0_1 l0_1.length c0_1] 27 (0, 0)) (by (with_reducible repeat (first | refine blk_drewN ?_ _ | refine blk_drew ?_ | refine blk_alloc ?_ _)); exact BK903.out) hb)
   have n1_ := Aside0.mk (below_step (by repeat (first | (with_reducible first | exact HB.out | apply below_alloc | apply pw_below_drewN | apply below_drew1 | refine below_set ?_ GE903.out) | exact HB.out)) hb)
   clear BK903
   clear HB
   have BK903 := n0_
   have HB := n1_
   clear n0_ n1_
   (try clear hb)
   (try clear hb2)
   (try clear hk)
   (try clear hi)
   refine hK.out _ _ ⟨(blk_cell BK903.out 0).trans rfl, (blk_cell BK903.out 1).trans rfl⟩ (fun hHeld => ?_)
   clear hK K
   refine norm_ (a' := ?_) ?_ ?_
   rotate_left
   ·
    show Act.put _ (some 6) _ = _
    simp only [Act.put, List.setIfInBounds_toArray, List.set_cons_zero, List.set_cons_succ, i64_w, i32_w]
    rfl
   refine pure_ (i := 2) (N := some 7) (v := ?_) (a' := ?_) #[true, true, true, false, false, false, false, false, false, false] rfl rfl (any_of HT_.out (by kernel_rfl)) (fun _ _ _ h => h) (Or.inl ⟨by rfl, ?_⟩) ?_ ?_
   rotate_left
   ·
    intro w'
    go_simp
    with_reducible rfl
   rotate_left
   ·
    simp only [Act.put, List.setIfInBounds_toArray, List.set_cons_zero, List.set_cons_succ, i64_w, i32_w]
    rfl
   refine pure_ (i := 3) (N := some 8) (v := ?_) (a' := ?_) #[true, true, true, true, false, false, false, false, false, false] rfl rfl (any_of HT_.out (by kernel_rfl)) (fun _ _ _ h => h) (Or.inl ⟨by rfl, ?_⟩) ?_ ?_
   rotate_left
   ·
    intro w'
    go_simp
    with_reducible rfl
   rotate_left
   ·
    simp only [Act.put, List.setIfInBounds_toArray, List.set_cons_zero, List.set_cons_succ, i64_w, i32_w]
    rfl
   refine pure_ (i := 5) (N := some 10) (v := ?_) (a' := ?_) #[true, true, true, true, false, true, false, false, false, false] rfl rfl (any_of HT_.out (by kernel_rfl)) (fun _ _ _ h => h) (Or.inl ⟨by rfl, ?_⟩) ?_ ?_
   rotate_left
   ·
    intro w'
    go_simp
    with_reducible rfl
   rotate_left
   ·
    simp only [Act.put, List.setIfInBounds_toArray, List.set_cons_zero, List.set_cons_succ, i64_w, i32_w]
    rfl
   refine take_ (i := 4) (N := some 9) (v := ?_) (a' := ?_) #[true, true, true, true, true, true, false, false, false, false] rfl rfl (take_ofW HT_.out HW_.out (by kernel_rfl)) (fun _ _ _ h => h) (Or.inl ⟨by rfl, ?_⟩) hHeld ?_ ?_
   rotate_left
   ·
    rintro w' ⟨s0, s1⟩
    go_simp
    with_reducible rfl
   rotate_left
   ·
    simp only [Act.put, List.setIfInBounds_toArray, List.set_cons_zero, List.set_cons_succ, i64_w, i32_w]
    rfl
   refine one_ (i := 6) (N := some 11) #[true, true, true, true, true, true, true, false, false, false] rfl rfl (one_of HT_.out (by kernel_rfl)) (by decide) (fun K hK => ?_)
   refine goes_ Try.func108 (by kernel_rfl) rfl #[] (by rfl) rfl rfl (by (try simp only [List.map_toArray, List.map_cons, List.map_nil]); first | done | rfl | (simp only [List.length_drop, List.length_take]; rfl)) ?_
   with_reducible refine (selfstabref27_Vars.calls  t905 _ A5.out).mono ?_
   rintro e w20 ⟨v906, rfl, ho0, hb⟩
   refine ⟨_, rfl, ?_⟩
   have n0_ := Aside0.mk (Kd.R_lower ho0 (below_size (by repeat (first | (with_reducible first | exact HB.out | apply below_alloc | apply pw_below_drewN | apply below_drew1 | refine below_set ?_ GE903.out) | exact HB.out))))
   have n1_ := Aside0.mk (blk_below (g := gb903) (o := .cells #[.slice A0_0 l0_0.length c0_0, .slice A0_1 l0_1.length c0_1] 27 (0, 0)) (by (with_reducible repeat (first | refine blk_drewN ?_ _ | refine blk_drew ?_ | refine blk_alloc ?_ _)); exact BK903.out) hb)
   have n2_ := Aside0.mk (below_step (by repeat (first | (with_reducible first | exact HB.out | apply below_alloc | apply pw_below_drewN | apply below_drew1 | refine below_set ?_ GE903.out) | exact HB.out)) hb)
   clear BK903
   clear HB
   have HO907 := n0_
   have BK903 := n1_
   have HB := n2_
   clear n0_ n1_ n2_
   (try clear hb)
   (try clear hb2)
   (try clear hk)
   (try clear hi)
   (try clear ho0)
   obtain ⟨Ao21, co21, eo21⟩ := Kd.R_slice HO907.out
   (first | subst eo21 | (injection eo21 with f1_ f2_ f3_; have f4_ := f1_.symm; have f5_ := f3_.symm; clear f1_ f2_ f3_; subst f4_; subst f5_))
   refine hK.out _ _ ⟨(blk_cell BK903.out 0).trans rfl, (blk_cell BK903.out 1).trans rfl⟩ (fun hHeld => ?_)
   clear hK K
   refine norm_ (a' := ?_) ?_ ?_
   rotate_left
   ·
    show Act.put _ (some 11) _ = _
    simp only [Act.put, List.setIfInBounds_toArray, List.set_cons_zero, List.set_cons_succ, i64_w, i32_w]
    rfl
   refine one_ (i := 7) (N := some 12) #[true, true, true, true, true, true, true, true, false, false] rfl rfl (one_of HT_.out (by kernel_rfl)) (by decide) (fun K hK => ?_)
   refine goes_ Try.func83 (by kernel_rfl) rfl #[.agg #[.slice A0_0 l0_0.length c0_0, .slice A0_1 l0_1.length c0_1], .slice A1 l1.length c1, .slice Ao21 t905.length co21] (by rfl) rfl rfl (by (try simp only [List.map_toArray, List.map_cons, List.map_nil]); first | done | rfl | (simp only [List.length_drop, List.length_take]; rfl)) ?_
   with_reducible refine (selfstabref23_Config.calls _ _ l0_0 _ _ l0_1 _ _ l1 _ _ t905 false _ ?side1 ?side2 ?side3 ?side4 ?side5 ?side6 ?side7 ?side8 A6.out).mono ?_
   (case side1 => repeat (first | exact (Kd.C_below HR0_0.out HB.out) | (with_reducible refine Kd.C_alloc ?_ _) | (with_reducible refine Kd.C_drewN ?_ _) | (with_reducible refine Kd.C_drew ?_)))
   (case side2 => exact HC0_0.out)
   (case side3 => repeat (first | exact (Kd.C_below HR0_1.out HB.out) | (with_reducible refine Kd.C_alloc ?_ _) | (with_reducible refine Kd.C_drewN ?_ _) | (with_reducible refine Kd.C_drew ?_)))
   (case side4 => exact HC0_1.out)
   (case side5 => repeat (first | exact (Kd.C_below HR1.out HB.out) | (with_reducible refine Kd.C_alloc ?_ _) | (with_reducible refine Kd.C_drewN ?_ _) | (with_reducible refine Kd.C_drew ?_)))
   (case side6 => exact HC1.out)
   (case side7 => repeat (first | exact (Kd.R_reads' HO907.out).2.2 | (with_reducible refine Kd.C_alloc ?_ _) | (with_reducible refine Kd.C_drewN ?_ _) | (with_reducible refine Kd.C_drew ?_)))
   (case side8 => exact (Kd.R_reads' HO907.out).2.1)
   rintro e w22 ⟨rfl, hb⟩
   refine ⟨_, rfl, ?_⟩
   have n0_ := Aside0.mk (Kd.R_below (by (with_reducible repeat (first | apply Kd.R_alloc | apply Kd.R_drewN | apply Kd.R_drew)); exact HO907.out) hb)
   have n1_ := Aside0.mk (blk_below (g := gb903) (o := .cells #[.slice A0_0 l0_0.length c0_0, .slice A0_1 l0_1.length c0_1] 27 (0, 0)) (by (with_reducible repeat (first | refine blk_drewN ?_ _ | refine blk_drew ?_ | refine blk_alloc ?_ _)); exact BK903.out) hb)
   have n2_ := Aside0.mk (below_step (by repeat (first | (with_reducible first | exact HB.out | apply below_alloc | apply pw_below_drewN | apply below_drew1 | refine below_set ?_ GE903.out) | exact HB.out)) hb)
   clear HO907
   clear BK903
   clear HB
   have HO907 := n0_
   have BK903 := n1_
   have HB := n2_
   clear n0_ n1_ n2_
   (try clear hb)
   (try clear hb2)
   (try clear hk)
   (try clear hi)
   refine hK.out _ _ ⟨(blk_cell BK903.out 0).trans rfl, (blk_cell BK903.out 1).trans rfl⟩ (fun hHeld => ?_)
   clear hK K
   refine norm_ (a' := ?_) ?_ ?_
   rotate_left
   ·
    show Act.put _ (some 12) _ = _
    simp only [Act.put, List.setIfInBounds_toArray, List.set_cons_zero, List.set_cons_succ, i64_w, i32_w]
    rfl
   refine pure_ (i := 8) (N := some 13) (v := ?_) (a' := ?_) #[true, true, true, true, true, true, true, true, true, false] rfl rfl (any_of HT_.out (by kernel_rfl)) (fun _ _ _ h => h) (Or.inl ⟨by rfl, ?_⟩) ?_ ?_
   rotate_left
   ·
    intro w'
    go_simp
    with_reducible rfl
   rotate_left
   ·
    simp only [Act.put, List.setIfInBounds_toArray, List.set_cons_zero, List.set_cons_succ, i64_w, i32_w]
    rfl
   refine pure_ (i := 9) (N := some 14) (v := ?_) (a' := ?_) #[true, true, true, true, true, true, true, true, true, true] rfl rfl (any_of HT_.out (by kernel_rfl)) (fun _ _ _ h => h) (Or.inl ⟨by rfl, ?_⟩) ?_ ?_
   rotate_left
   ·
    intro w'
    go_simp
    with_reducible rfl
   rotate_left
   ·
    simp only [Act.put, List.setIfInBounds_toArray, List.set_cons_zero, List.set_cons_succ, i64_w, i32_w]
    rfl
   refine done_ (done_of HT_.out (by kernel_rfl)) ?_
   try go_wp2
   go_ret
   exact ⟨by first | rfl | (simp [errW_none, errW_some] <;> rfl) | (simp [*, errW_none, errW_some] <;> rfl), by repeat (first | (with_reducible first | exact HB.out | apply below_alloc | apply pw_below_drewN | apply below_drew1 | refine below_set ?_ GE903.out) | exact HB.out)⟩
 ·
  replace c4 := Bool.eq_false_iff.mpr c4
  subst c4
  have H1 : (some 0) = some r := by rw [if_neg (show ¬ (false = true) by decide)] at H; exact H
  clear H
  have H := H1
  clear H1
  obtain rfl := Option.some.inj H
  go_enter Try.func66, Try.ntmps66
  try go_wp2_with (first | ((with_reducible refine gate_dst (N := 2) rfl ?_); refine box_event ?hg (N := 2) ?hd (cs := #[.slice A0_0 l0_0.length c0_0, .slice A0_1 l0_1.length c0_1]) (t := 27) ?hr ?_; (case hd => rfl); (case hg => rfl); (case hr => first | (go_simp; done) | (go_simp; rfl)); intro gb903 hg w23 hbox hb; have n0_ := Aside0.mk (below_step (by repeat (first | (with_reducible first | exact HB.out | apply below_alloc | apply pw_below_drewN | apply below_drew1) | exact HB.out)) hb); have n1_ := Aside0.mk (hbox); have n2_ := Aside0.mk ((by rw [hg]; exact (below_size (by repeat (first | (with_reducible first | exact HB.out | apply below_alloc | apply pw_below_drewN | apply below_drew1) | exact HB.out))) : w.heap.size ≤ gb903)); have n3_ := Aside0.mk ((by rw [hg]; exact (below_size (by repeat (first | (with_reducible first | exact HB.out | apply below_alloc | apply pw_below_drewN | apply below_drew1) | exact HB.out))) : w.heap.size ≤ gb903)); clear HB; have HB := n0_; have BK903 := n1_; have GW903 := n2_; have GE903 := n3_; clear n0_ n1_ n2_ n3_; clear hb hbox hg))
  have n0_ := Aside0.mk (blk_drew BK903.out)
  have n1_ := Aside0.mk (below_drew1 HB.out)
  clear BK903
  clear HB
  have BK903 := n0_
  have HB := n1_
  clear n0_ n1_
  refine start_ (n := 10) (S := fun w' => w'.cell? ⟨gb903, 0, none⟩ = some (.slice A0_0 l0_0.length c0_0) ∧ w'.cell? ⟨gb903, 1, none⟩ = some (.slice A0_1 l0_1.length c0_1)) (ds := []) #[false, false, false, false, false, false, false, false, false, false] (by kernel_rfl) rfl rfl ⟨(blk_cell BK903.out 0).trans rfl, (blk_cell BK903.out 1).trans rfl⟩ (fun hHeld => ?_); refine with_tabW selfstabref27_Centers.tab1 selfstabref27_Centers.bits1 (fun HT_ HW_ => ?_)
  generalize w23.drew = w24 at BK903 HB hHeld ⊢
  refine take_ (i := 0) (N := some 5) (v := ?_) (a' := ?_) #[true, false, false, false, false, false, false, false, false, false] rfl rfl (take_ofW HT_.out HW_.out (by kernel_rfl)) (fun _ _ _ h => h) (Or.inl ⟨by rfl, ?_⟩) hHeld ?_ ?_
  rotate_left
  ·
   rintro w' ⟨s0, s1⟩
   go_simp
   with_reducible rfl
  rotate_left
  ·
   simp only [Act.put, List.setIfInBounds_toArray, List.set_cons_zero, List.set_cons_succ, i64_w, i32_w]
   rfl
  refine one_ (i := 1) (N := some 6) #[true, true, false, false, false, false, false, false, false, false] rfl rfl (one_of HT_.out (by kernel_rfl)) (by decide) (fun K hK => ?_)
  refine goes_ Try.func60 (by kernel_rfl) rfl #[.agg #[.slice A0_0 l0_0.length c0_0, .slice A0_1 l0_1.length c0_1]] (by rfl) rfl rfl (by (try simp only [List.map_toArray, List.map_cons, List.map_nil]); first | done | rfl | (simp only [List.length_drop, List.length_take]; rfl)) ?_
  with_reducible refine (selfstabref27_Fit.calls k _ _ l0_0 _ _ l0_1 false _ ?side1 ?side2 ?side3 ?side4 A3.out).mono ?_
  (case side1 => repeat (first | exact (Kd.C_below HR0_0.out HB.out) | (with_reducible refine Kd.C_alloc ?_ _) | (with_reducible refine Kd.C_drewN ?_ _) | (with_reducible refine Kd.C_drew ?_)))
  (case side2 => exact HC0_0.out)
  (case side3 => repeat (first | exact (Kd.C_below HR0_1.out HB.out) | (with_reducible refine Kd.C_alloc ?_ _) | (with_reducible refine Kd.C_drewN ?_ _) | (with_reducible refine Kd.C_drew ?_)))
  (case side4 => exact HC0_1.out)
  rintro e w25 ⟨rfl, hb⟩
  refine ⟨_, rfl, ?_⟩
  have n0_ := Aside0.mk (blk_below (g := gb903) (o := .cells #[.slice A0_0 l0_0.length c0_0, .slice A0_1 l0_1.length c0_1] 27 (0, 0)) (by (with_reducible repeat (first | refine blk_drewN ?_ _ | refine blk_drew ?_ | refine blk_alloc ?_ _)); exact BK903.out) hb)
  have n1_ := Aside0.mk (below_step (by repeat (first | (with_reducible first | exact HB.out | apply below_alloc | apply pw_below_drewN | apply below_drew1 | refine below_set ?_ GE903.out) | exact HB.out)) hb)
  clear BK903
  clear HB
  have BK903 := n0_
  have HB := n1_
  clear n0_ n1_
  (try clear hb)
  (try clear hb2)
  (try clear hk)
  (try clear hi)
  refine hK.out _ _ ⟨(blk_cell BK903.out 0).trans rfl, (blk_cell BK903.out 1).trans rfl⟩ (fun hHeld => ?_)
  clear hK K
  refine norm_ (a' := ?_) ?_ ?_
  rotate_left
  ·
   show Act.put _ (some 6) _ = _
   simp only [Act.put, List.setIfInBounds_toArray, List.set_cons_zero, List.set_cons_succ, i64_w, i32_w]
   rfl
  refine pure_ (i := 2) (N := some 7) (v := ?_) (a' := ?_) #[true, true, true, false, false, false, false, false, false, false] rfl rfl (any_of HT_.out (by kernel_rfl)) (fun _ _ _ h => h) (Or.inl ⟨by rfl, ?_⟩) ?_ ?_
  rotate_left
  ·
   intro w'
   go_simp
   with_reducible rfl
  rotate_left
  ·
   simp only [Act.put, List.setIfInBounds_toArray, List.set_cons_zero, List.set_cons_succ, i64_w, i32_w]
   rfl
  refine pure_ (i := 3) (N := some 8) (v := ?_) (a' := ?_) #[true, true, true, true, false, false, false, false, false, false] rfl rfl (any_of HT_.out (by kernel_rfl)) (fun _ _ _ h => h) (Or.inl ⟨by rfl, ?_⟩) ?_ ?_
  rotate_left
  ·
   intro w'
   go_simp
   with_reducible rfl
  rotate_left
  ·
   simp only [Act.put, List.setIfInBounds_toArray, List.set_cons_zero, List.set_cons_succ, i64_w, i32_w]
   rfl
  refine pure_ (i := 4) (N := some 9) (v := undef) (a' := ?_) #[true, true, true, true, true, false, false, false, false, false] rfl rfl (any_of HT_.out (by kernel_rfl)) (fun _ _ _ h => h) (Or.inr ⟨by rfl, rfl⟩) ?_ ?_
  rotate_left
  ·
   simp only [Act.put, List.setIfInBounds_toArray, List.set_cons_zero, List.set_cons_succ, i64_w, i32_w]
   rfl
  refine pure_ (i := 5) (N := some 10) (v := undef) (a' := ?_) #[true, true, true, true, true, true, false, false, false, false] rfl rfl (any_of HT_.out (by kernel_rfl)) (fun _ _ _ h => h) (Or.inr ⟨by rfl, rfl⟩) ?_ ?_
  rotate_left
  ·
   simp only [Act.put, List.setIfInBounds_toArray, List.set_cons_zero, List.set_cons_succ, i64_w, i32_w]
   rfl
  refine pure_ (i := 6) (N := some 11) (v := undef) (a' := ?_) #[true, true, true, true, true, true, true, false, false, false] rfl rfl (any_of HT_.out (by kernel_rfl)) (fun _ _ _ h => h) (Or.inr ⟨by rfl, rfl⟩) ?_ ?_
  rotate_left
  ·
   simp only [Act.put, List.setIfInBounds_toArray, List.set_cons_zero, List.set_cons_succ, i64_w, i32_w]
   rfl
  refine pure_ (i := 7) (N := some 12) (v := undef) (a' := ?_) #[true, true, true, true, true, true, true, true, false, false] rfl rfl (any_of HT_.out (by kernel_rfl)) (fun _ _ _ h => h) (Or.inr ⟨by rfl, rfl⟩) ?_ ?_
  rotate_left
  ·
   simp only [Act.put, List.setIfInBounds_toArray, List.set_cons_zero, List.set_cons_succ, i64_w, i32_w]
   rfl
  refine pure_ (i := 8) (N := some 13) (v := undef) (a' := ?_) #[true, true, true, true, true, true, true, true, true, false] rfl rfl (any_of HT_.out (by kernel_rfl)) (fun _ _ _ h => h) (Or.inr ⟨by rfl, rfl⟩) ?_ ?_
  rotate_left
  ·
   simp only [Act.put, List.setIfInBounds_toArray, List.set_cons_zero, List.set_cons_succ, i64_w, i32_w]
   rfl
  refine pure_ (i := 9) (N := some 14) (v := ?_) (a' := ?_) #[true, true, true, true, true, true, true, true, true, true] rfl rfl (any_of HT_.out (by kernel_rfl)) (fun _ _ _ h => h) (Or.inl ⟨by rfl, ?_⟩) ?_ ?_
  rotate_left
  ·
   intro w'
   go_simp
   with_reducible rfl
  rotate_left
  ·
   simp only [Act.put, List.setIfInBounds_toArray, List.set_cons_zero, List.set_cons_succ, i64_w, i32_w]
   rfl
  refine done_ (done_of HT_.out (by kernel_rfl)) ?_
  try go_wp2
  go_ret
  exact ⟨by first | rfl | (simp [errW_none, errW_some] <;> rfl) | (simp [*, errW_none, errW_some] <;> rfl), by repeat (first | (with_reducible first | exact HB.out | apply below_alloc | apply pw_below_drewN | apply below_drew1 | refine below_set ?_ GE903.out) | exact HB.out)⟩
end Go.Proofs.YthapikakneikbaaG
namespace Go.Proofs.YthapikakneikbaaG
open Go.RowKit Go.Proofs.YthapikakneikbaaW.PrintWords Go.Proofs.YthapikakneikbaaW.PrintLast Go.Proofs.YthapikakneikbaaW.PrintMore
attribute [local go_sem] max2_int min2_int max_two min_two max_three min_three max_four min_four   -- for this text's walks alone
set_option linter.unusedVariables false
set_option linter.unusedSimpArgs false
attribute [local go_sem high] eqA44
def selfstablaw27_CenterJudges.f (k : Nat) (l0_0 : List Int) (l0_1 : List (List (S60))) (l1 : List (List Int)) : Option (Bool) := (selfstablaw27_large.f l0_0 l0_1 l1).bind fun t911 => (if t911 = true then ((selfstablaw27_known.f k).bind fun t912 => (some t912)) else ((selfstablaw27_known.f k).bind fun t913 => (if t913 = true then ((center_Fit.f k l0_0 l0_1).bind fun t914 => ((selfstabref27_Fit.f k l0_0 l0_1).bind fun t915 => (if (t914 == t915) = true then ((center_Legit.f k l0_0 l0_1 l1).bind fun t916 => ((selfstabref27_Legit.f k l0_0 l0_1 l1).bind fun t917 => (if (t916 == t917) = true then ((center_Claim.f k l0_0 l0_1).bind fun bt918 => ((selfstabref27_Claim.f k l0_0 l0_1).bind fun bt923 => (if (bt918.1 == bt923.1 && (bt918.2.1 == bt923.2.1 && (bt918.2.2.1 == bt923.2.2.1 && (bt918.2.2.2.1 == bt923.2.2.2.1 && (bt918.2.2.2.2 == bt923.2.2.2.2))))) = true then ((center_Centers.f k l0_0 l0_1 l1).bind fun t928 => ((selfstabref27_Centers.f k l0_0 l0_1 l1).bind fun t929 => (some (t928 == t929)))) else (none)))) else (none)))) else (none)))) else (none))))
theorem selfstablaw27_CenterJudges.mono : ∀ a0 a1 a2 k, LeO (selfstablaw27_CenterJudges.f k a0 a1 a2) (selfstablaw27_CenterJudges.f (k + 1) a0 a1 a2) := by
 intro a0 a1 a2 k
 unfold selfstablaw27_CenterJudges.f
 repeat' first
   | (with_reducible exact center_Centers.mono _ _ _ _)
   | (with_reducible exact center_Claim.mono _ _ _)
   | (with_reducible exact center_Fit.mono _ _ _)
   | (with_reducible exact center_Legit.mono _ _ _ _)
   | (with_reducible exact selfstablaw27_known.mono _)
   | (with_reducible exact selfstabref27_Centers.mono _ _ _ _)
   | (with_reducible exact selfstabref27_Claim.mono _ _ _)
   | (with_reducible exact selfstabref27_Fit.mono _ _ _)
   | (with_reducible exact selfstabref27_Legit.mono _ _ _ _)
   | (with_reducible exact LeO.refl _)
   | (with_reducible exact LeO.none _)
   | (with_reducible refine LeO.ite ?_ ?_)
   | (with_reducible refine LeO.bind ?_ (fun _ => ?_))
   | exact center_Centers.mono _ _ _ _
   | exact center_Claim.mono _ _ _
   | exact center_Fit.mono _ _ _
   | exact center_Legit.mono _ _ _ _
   | exact selfstablaw27_known.mono _
   | exact selfstabref27_Centers.mono _ _ _ _
   | exact selfstabref27_Claim.mono _ _ _
   | exact selfstabref27_Fit.mono _ _ _
   | exact selfstabref27_Legit.mono _ _ _ _
   | exact LeO.none _
   | refine LeO.ite ?_ ?_
   | refine LeO.bind ?_ (fun _ => ?_)
def selfstablaw27_CenterJudges.T3 : Bool × List (List Nat × List Nat) := (true, [([], []), ([0, 0], [0]), ([1], [1]), ([2, 1, 1], [1, 2]), ([1], [1]), ([4, 3, 1], [1, 4]), ([3, 5, 1], [1, 3, 5]), ([1, 6], [1, 6]), ([7, 5], [7]), ([8], [8]), ([8], [8]), ([9, 10, 8, 8], [8, 9, 10]), ([8], [8]), ([8], [8]), ([12, 13, 11, 8], [8, 12, 13]), ([11, 14, 8], [8, 11, 14]), ([8, 15], [8, 15]), ([16, 14], [16]), ([17], [17]), ([18, 17, 17], [17, 18]), ([17], [17]), ([20, 19, 17], [17, 20]), ([19, 21, 17], [17, 19, 21]), ([17, 22], [17, 22]), ([23, 21], [23]), ([24], [24]), ([24], [24]), ([25, 26, 24, 24], [24, 25, 26]), ([24], [24]), ([24], [24]), ([28, 29, 27, 24], [24, 28, 29]), ([27, 30, 24], [24, 27, 30]), ([24, 31], [24, 31]), ([32, 30, 0, 1, 2, 3, 4, 5, 6, 7, 8, 9, 10, 11, 12, 13, 14, 15, 16, 17, 18, 19, 20, 21, 22, 23, 24, 25, 26, 27, 28, 29, 30, 31, 32], [32])])
def selfstablaw27_CenterJudges.B3 : List Nat := [0, 1, 3, 7, 3, 31, 63, 127, 255, 511, 511, 2047, 511, 511, 16383, 32767, 65535, 131071, 262143, 524287, 262143, 2097151, 4194303, 8388607, 16777215, 33554431, 33554431, 134217727, 33554431, 33554431, 1073741823, 2147483647, 4294967295, 8589934591]
theorem selfstablaw27_CenterJudges.tab3 : rtab .any (opsOf Try.f8 3) = selfstablaw27_CenterJudges.T3 := by kernel_rfl
theorem selfstablaw27_CenterJudges.bits3 : waitsOk selfstablaw27_CenterJudges.T3.2 selfstablaw27_CenterJudges.B3 = true := by kernel_rfl
set_option maxHeartbeats 8000000 in
set_option maxRecDepth 100000 in
theorem selfstablaw27_CenterJudges.calls (k : Nat) (A0_0 : Option Addr) (c0_0 : Nat) (l0_0 : List Int) (A0_1 : Option Addr) (c0_1 : Nat) (l0_1 : List (List (S60))) (A1 : Option Addr) (c1 : Nat) (l1 : List (List Int)) (r : Bool) (w : World) (hr0_0 : Kd.C (Kd.int .i64) w A0_0 l0_0.length l0_0) (hc0_0 : l0_0.length ≤ c0_0) (hr0_1 : Kd.C (Kd.slice 60 k60) w A0_1 l0_1.length l0_1) (hc0_1 : l0_1.length ≤ c0_1) (hr1 : Kd.C (Kd.slice 3 (Kd.int .i64)) w A1 l1.length l1) (hc1 : l1.length ≤ c1) (h : selfstablaw27_CenterJudges.f k l0_0 l0_1 l1 = some r) :
  Calls Try.prog 8 #[.agg #[.slice A0_0 l0_0.length c0_0, .slice A0_1 l0_1.length c0_1], .slice A1 l1.length c1] w fun e w' => e = .returned (.bool r) ∧ Below w.heap.size w w' := by
 have hu27 := Try.underlying27
 have HR0_0 := Aside0.mk hr0_0
 have HC0_0 := Aside0.mk hc0_0
 clear hr0_0 hc0_0
 have HR0_1 := Aside0.mk hr0_1
 have HC0_1 := Aside0.mk hc0_1
 clear hr0_1 hc0_1
 have HR1 := Aside0.mk hr1
 have HC1 := Aside0.mk hc1
 clear hr1 hc1
 have HB := Aside0.mk (Below.refl w.heap.size w)
 have H : ((selfstablaw27_large.f l0_0 l0_1 l1).bind fun t911 => (if t911 = true then ((selfstablaw27_known.f k).bind fun t912 => (some t912)) else ((selfstablaw27_known.f k).bind fun t913 => (if t913 = true then ((center_Fit.f k l0_0 l0_1).bind fun t914 => ((selfstabref27_Fit.f k l0_0 l0_1).bind fun t915 => (if (t914 == t915) = true then ((center_Legit.f k l0_0 l0_1 l1).bind fun t916 => ((selfstabref27_Legit.f k l0_0 l0_1 l1).bind fun t917 => (if (t916 == t917) = true then ((center_Claim.f k l0_0 l0_1).bind fun bt918 => ((selfstabref27_Claim.f k l0_0 l0_1).bind fun bt923 => (if (bt918.1 == bt923.1 && (bt918.2.1 == bt923.2.1 && (bt918.2.2.1 == bt923.2.2.1 && (bt918.2.2.2.1 == bt923.2.2.2.1 && (bt918.2.2.2.2 == bt923.2.2.2.2))))) = true then ((center_Centers.f k l0_0 l0_1 l1).bind fun t928 => ((selfstabref27_Centers.f k l0_0 l0_1 l1).bind fun t929 => (some (t928 == t929)))) else (none)))) else (none)))) else (none)))) else (none))))) = some r := h
 clear h
 replace H := Option.bind_eq_some_iff.mp H
 obtain ⟨t911, A30, H⟩ := H
 replace H : (if t911 = true then ((selfstablaw27_known.f k).bind fun t912 => (some t912)) else ((selfstablaw27_known.f k).bind fun t913 => (if t913 = true then ((center_Fit.f k l0_0 l0_1).bind fun t914 => ((selfstabref27_Fit.f k l0_0 l0_1).bind fun t915 => (if (t914 == t915) = true then ((center_Legit.f k l0_0 l0_1 l1).bind fun t916 => ((selfstabref27_Legit.f k l0_0 l0_1 l1).bind fun t917 => (if (t916 == t917) = true then ((center_Claim.f k l0_0 l0_1).bind fun bt918 => ((selfstabref27_Claim.f k l0_0 l0_1).bind fun bt923 => (if (bt918.1 == bt923.1 && (bt918.2.1 == bt923.2.1 && (bt918.2.2.1 == bt923.2.2.1 && (bt918.2.2.2.1 == bt923.2.2.2.1 && (bt918.2.2.2.2 == bt923.2.2.2.2))))) = true then ((center_Centers.f k l0_0 l0_1 l1).bind fun t928 => ((selfstabref27_Centers.f k l0_0 l0_1 l1).bind fun t929 => (some (t928 == t929)))) else (none)))) else (none)))) else (none)))) else (none)))) = some r := H
 have A3 := Aside0.mk A30
 clear A30
 by_cases c4 : t911 = true
 ·
  subst c4
  have H1 : ((selfstablaw27_known.f k).bind fun t912 => (some t912)) = some r := by rw [if_pos rfl] at H; exact H
  clear H
  have H := H1
  clear H1
  replace H := Option.bind_eq_some_iff.mp H
  obtain ⟨t912, A50, H⟩ := H
  replace H : (some t912) = some r := H
  have A5 := Aside0.mk A50
  clear A50
  obtain rfl := Option.some.inj H
  go_enter Try.func8, Try.ntmps8
  go_wp2_with (first | ((with_reducible refine gate_dst (N := 2) rfl ?_); refine box_event ?hg (N := 2) ?hd (cs := #[.slice A0_0 l0_0.length c0_0, .slice A0_1 l0_1.length c0_1]) (t := 27) ?hr ?_; (case hd => rfl); (case hg => rfl); (case hr => first | (go_simp; done) | (go_simp; rfl)); intro gb910 hg w6 hbox hb; have n0_ := Aside0.mk (below_step (by repeat (first | (with_reducible first | exact HB.out | apply below_alloc | apply pw_below_drewN | apply below_drew1) | exact HB.out)) hb); have n1_ := Aside0.mk (hbox); have n2_ := Aside0.mk ((by rw [hg]; exact (below_size (by repeat (first | (with_reducible first | exact HB.out | apply below_alloc | apply pw_below_drewN | apply below_drew1) | exact HB.out))) : w.heap.size ≤ gb910)); have n3_ := Aside0.mk ((by rw [hg]; exact (below_size (by repeat (first | (with_reducible first | exact HB.out | apply below_alloc | apply pw_below_drewN | apply below_drew1) | exact HB.out))) : w.heap.size ≤ gb910)); clear HB; have HB := n0_; have BK910 := n1_; have GW910 := n2_; have GE910 := n3_; clear n0_ n1_ n2_ n3_; clear hb hbox hg; have hcz7_0 : w6.cell? ⟨gb910, 0, none⟩ = some (.slice A0_0 l0_0.length c0_0) := (blk_cell BK910.out 0).trans rfl; have hcz7_1 : w6.cell? ⟨gb910, 1, none⟩ = some (.slice A0_1 l0_1.length c0_1) := (blk_cell BK910.out 1).trans rfl; have hfz7_0 := blk_frozen BK910.out 0; have hfz7_1 := blk_frozen BK910.out 1) | ((with_reducible refine gate_callee (f := 57) rfl ?_); refine goesL_ (some 7) rfl rfl Try.func57 (by kernel_rfl) rfl #[.agg #[.slice A0_0 l0_0.length c0_0, .slice A0_1 l0_1.length c0_1], .slice A1 l1.length c1] rfl (by (try simp only [List.map_toArray, List.map_cons, List.map_nil]); first | done | rfl | (simp only [List.length_drop, List.length_take]; rfl)) ?_; (with_reducible refine (selfstablaw27_large.calls _ _ l0_0 _ _ l0_1 _ _ l1 true _ ?side1 ?side2 ?side3 ?side4 ?side5 ?side6 A3.out).mono ?_); (case side1 => repeat (first | exact (Kd.C_below HR0_0.out HB.out) | (with_reducible refine Kd.C_alloc ?_ _) | (with_reducible refine Kd.C_drewN ?_ _) | (with_reducible refine Kd.C_drew ?_))); (case side2 => exact HC0_0.out); (case side3 => repeat (first | exact (Kd.C_below HR0_1.out HB.out) | (with_reducible refine Kd.C_alloc ?_ _) | (with_reducible refine Kd.C_drewN ?_ _) | (with_reducible refine Kd.C_drew ?_))); (case side4 => exact HC0_1.out); (case side5 => repeat (first | exact (Kd.C_below HR1.out HB.out) | (with_reducible refine Kd.C_alloc ?_ _) | (with_reducible refine Kd.C_drewN ?_ _) | (with_reducible refine Kd.C_drew ?_))); (case side6 => exact HC1.out); rintro e w8 ⟨rfl, hb⟩; refine ⟨_, rfl, ?_⟩; have n0_ := Aside0.mk (blk_below (g := gb910) (o := .cells #[.slice A0_0 l0_0.length c0_0, .slice A0_1 l0_1.length c0_1] 27 (0, 0)) (by (with_reducible repeat (first | refine blk_drewN ?_ _ | refine blk_drew ?_ | refine blk_alloc ?_ _)); exact BK910.out) hb); have n1_ := Aside0.mk (below_step (by repeat (first | (with_reducible first | exact HB.out | apply below_alloc | apply pw_below_drewN | apply below_drew1 | refine below_set ?_ GE910.out) | exact HB.out)) hb); clear BK910; clear HB; have BK910 := n0_; have HB := n1_; clear n0_ n1_; (try clear hb); (try clear hb2); (try clear hk); (try clear hi)) | ((with_reducible refine gate_callee (f := 58) rfl ?_); refine goesL_ (some 8) rfl rfl Try.func58 (by kernel_rfl) rfl #[] rfl (by (try simp only [List.map_toArray, List.map_cons, List.map_nil]); first | done | rfl | (simp only [List.length_drop, List.length_take]; rfl)) ?_; (with_reducible refine (selfstablaw27_known.calls k  t912 _ A5.out).mono ?_); rintro e w9 ⟨rfl, hb⟩; refine ⟨_, rfl, ?_⟩; have n0_ := Aside0.mk (blk_below (g := gb910) (o := .cells #[.slice A0_0 l0_0.length c0_0, .slice A0_1 l0_1.length c0_1] 27 (0, 0)) (by (with_reducible repeat (first | refine blk_drewN ?_ _ | refine blk_drew ?_ | refine blk_alloc ?_ _)); exact BK910.out) hb); have n1_ := Aside0.mk (below_step (by repeat (first | (with_reducible first | exact HB.out | apply below_alloc | apply pw_below_drewN | apply below_drew1 | refine below_set ?_ GE910.out) | exact HB.out)) hb); clear BK910; clear HB; have BK910 := n0_; have HB := n1_; clear n0_ n1_; (try clear hb); (try clear hb2); (try clear hk); (try clear hi)))
  go_ret
  exact ⟨by first | rfl | (simp [errW_none, errW_some] <;> rfl) | (simp [*, errW_none, errW_some] <;> rfl), by repeat (first | (with_reducible first | exact HB.out | apply below_alloc | apply pw_below_drewN | apply below_drew1 | refine below_set ?_ GE910.out) | exact HB.out)⟩
 ·
  replace c4 := Bool.eq_false_iff.mpr c4
  subst c4
  have H1 : ((selfstablaw27_known.f k).bind fun t913 => (if t913 = true then ((center_Fit.f k l0_0 l0_1).bind fun t914 => ((selfstabref27_Fit.f k l0_0 l0_1).bind fun t915 => (if (t914 == t915) = true then ((center_Legit.f k l0_0 l0_1 l1).bind fun t916 => ((selfstabref27_Legit.f k l0_0 l0_1 l1).bind fun t917 => (if (t916 == t917) = true then ((center_Claim.f k l0_0 l0_1).bind fun bt918 => ((selfstabref27_Claim.f k l0_0 l0_1).bind fun bt923 => (if (bt918.1 == bt923.1 && (bt918.2.1 == bt923.2.1 && (bt918.2.2.1 == bt923.2.2.1 && (bt918.2.2.2.1 == bt923.2.2.2.1 && (bt918.2.2.2.2 == bt923.2.2.2.2))))) = true then ((center_Centers.f k l0_0 l0_1 l1).bind fun t928 => ((selfstabref27_Centers.f k l0_0 l0_1 l1).bind fun t929 => (some (t928 == t929)))) else (none)))) else (none)))) else (none)))) else (none))) = some r := by rw [if_neg (show ¬ (false = true) by decide)] at H; exact H
  clear H
  have H := H1
  clear H1
  replace H := Option.bind_eq_some_iff.mp H
  obtain ⟨t913, A100, H⟩ := H
  replace H : (if t913 = true then ((center_Fit.f k l0_0 l0_1).bind fun t914 => ((selfstabref27_Fit.f k l0_0 l0_1).bind fun t915 => (if (t914 == t915) = true then ((center_Legit.f k l0_0 l0_1 l1).bind fun t916 => ((selfstabref27_Legit.f k l0_0 l0_1 l1).bind fun t917 => (if (t916 == t917) = true then ((center_Claim.f k l0_0 l0_1).bind fun bt918 => ((selfstabref27_Claim.f k l0_0 l0_1).bind fun bt923 => (if (bt918.1 == bt923.1 && (bt918.2.1 == bt923.2.1 && (bt918.2.2.1 == bt923.2.2.1 && (bt918.2.2.2.1 == bt923.2.2.2.1 && (bt918.2.2.2.2 == bt923.2.2.2.2))))) = true then ((center_Centers.f k l0_0 l0_1 l1).bind fun t928 => ((selfstabref27_Centers.f k l0_0 l0_1 l1).bind fun t929 => (some (t928 == t929)))) else (none)))) else (none)))) else (none)))) else (none)) = some r := H
  have A10 := Aside0.mk A100
  clear A100
  by_cases c11 : t913 = true
  ·
   subst c11
   have H1 : ((center_Fit.f k l0_0 l0_1).bind fun t914 => ((selfstabref27_Fit.f k l0_0 l0_1).bind fun t915 => (if (t914 == t915) = true then ((center_Legit.f k l0_0 l0_1 l1).bind fun t916 => ((selfstabref27_Legit.f k l0_0 l0_1 l1).bind fun t917 => (if (t916 == t917) = true then ((center_Claim.f k l0_0 l0_1).bind fun bt918 => ((selfstabref27_Claim.f k l0_0 l0_1).bind fun bt923 => (if (bt918.1 == bt923.1 && (bt918.2.1 == bt923.2.1 && (bt918.2.2.1 == bt923.2.2.1 && (bt918.2.2.2.1 == bt923.2.2.2.1 && (bt918.2.2.2.2 == bt923.2.2.2.2))))) = true then ((center_Centers.f k l0_0 l0_1 l1).bind fun t928 => ((selfstabref27_Centers.f k l0_0 l0_1 l1).bind fun t929 => (some (t928 == t929)))) else (none)))) else (none)))) else (none)))) = some r := by rw [if_pos rfl] at H; exact H
   clear H
   have H := H1
   clear H1
   replace H := Option.bind_eq_some_iff.mp H
   obtain ⟨t914, A120, H⟩ := H
   replace H : ((selfstabref27_Fit.f k l0_0 l0_1).bind fun t915 => (if (t914 == t915) = true then ((center_Legit.f k l0_0 l0_1 l1).bind fun t916 => ((selfstabref27_Legit.f k l0_0 l0_1 l1).bind fun t917 => (if (t916 == t917) = true then ((center_Claim.f k l0_0 l0_1).bind fun bt918 => ((selfstabref27_Claim.f k l0_0 l0_1).bind fun bt923 => (if (bt918.1 == bt923.1 && (bt918.2.1 == bt923.2.1 && (bt918.2.2.1 == bt923.2.2.1 && (bt918.2.2.2.1 == bt923.2.2.2.1 && (bt918.2.2.2.2 == bt923.2.2.2.2))))) = true then ((center_Centers.f k l0_0 l0_1 l1).bind fun t928 => ((selfstabref27_Centers.f k l0_0 l0_1 l1).bind fun t929 => (some (t928 == t929)))) else (none)))) else (none)))) else (none))) = some r := H
   have A12 := Aside0.mk A120
   clear A120
   replace H := Option.bind_eq_some_iff.mp H
   obtain ⟨t915, A130, H⟩ := H
   replace H : (if (t914 == t915) = true then ((center_Legit.f k l0_0 l0_1 l1).bind fun t916 => ((selfstabref27_Legit.f k l0_0 l0_1 l1).bind fun t917 => (if (t916 == t917) = true then ((center_Claim.f k l0_0 l0_1).bind fun bt918 => ((selfstabref27_Claim.f k l0_0 l0_1).bind fun bt923 => (if (bt918.1 == bt923.1 && (bt918.2.1 == bt923.2.1 && (bt918.2.2.1 == bt923.2.2.1 && (bt918.2.2.2.1 == bt923.2.2.2.1 && (bt918.2.2.2.2 == bt923.2.2.2.2))))) = true then ((center_Centers.f k l0_0 l0_1 l1).bind fun t928 => ((selfstabref27_Centers.f k l0_0 l0_1 l1).bind fun t929 => (some (t928 == t929)))) else (none)))) else (none)))) else (none)) = some r := H
   have A13 := Aside0.mk A130
   clear A130
   by_cases c14 : (t914 == t915) = true
   ·
    rw [if_pos c14] at H
    have c14b0 : (t914 == t915) = true := c14
    (try (have c14b1 : decide (t914 = t915) = true := by simpa using c14))
    (try (have c14b2 : (t914 == t915) = true := by simpa using c14))
    clear c14
    replace H := Option.bind_eq_some_iff.mp H
    obtain ⟨t916, A150, H⟩ := H
    replace H : ((selfstabref27_Legit.f k l0_0 l0_1 l1).bind fun t917 => (if (t916 == t917) = true then ((center_Claim.f k l0_0 l0_1).bind fun bt918 => ((selfstabref27_Claim.f k l0_0 l0_1).bind fun bt923 => (if (bt918.1 == bt923.1 && (bt918.2.1 == bt923.2.1 && (bt918.2.2.1 == bt923.2.2.1 && (bt918.2.2.2.1 == bt923.2.2.2.1 && (bt918.2.2.2.2 == bt923.2.2.2.2))))) = true then ((center_Centers.f k l0_0 l0_1 l1).bind fun t928 => ((selfstabref27_Centers.f k l0_0 l0_1 l1).bind fun t929 => (some (t928 == t929)))) else (none)))) else (none))) = some r := H
    have A15 := Aside0.mk A150
    clear A150
    replace H := Option.bind_eq_some_iff.mp H
    obtain ⟨t917, A160, H⟩ := H
    replace H : (if (t916 == t917) = true then ((center_Claim.f k l0_0 l0_1).bind fun bt918 => ((selfstabref27_Claim.f k l0_0 l0_1).bind fun bt923 => (if (bt918.1 == bt923.1 && (bt918.2.1 == bt923.2.1 && (bt918.2.2.1 == bt923.2.2.1 && (bt918.2.2.2.1 == bt923.2.2.2.1 && (bt918.2.2.2.2 == bt923.2.2.2.2))))) = true then ((center_Centers.f k l0_0 l0_1 l1).bind fun t928 => ((selfstabref27_Centers.f k l0_0 l0_1 l1).bind fun t929 => (some (t928 == t929)))) else (none)))) else (none)) = some r := H
    have A16 := Aside0.mk A160
    clear A160
    by_cases c17 : (t916 == t917) = true
    ·
     rw [if_pos c17] at H
     have c17b0 : (t916 == t917) = true := c17
     (try (have c17b1 : decide (t916 = t917) = true := by simpa using c17))
     (try (have c17b2 : (t916 == t917) = true := by simpa using c17))
     clear c17
     replace H := Option.bind_eq_some_iff.mp H
     obtain ⟨⟨t918, t919, t920, t921, t922⟩, A180, H⟩ := H
     replace H : ((selfstabref27_Claim.f k l0_0 l0_1).bind fun bt923 => (if (t918 == bt923.1 && (t919 == bt923.2.1 && (t920 == bt923.2.2.1 && (t921 == bt923.2.2.2.1 && (t922 == bt923.2.2.2.2))))) = true then ((center_Centers.f k l0_0 l0_1 l1).bind fun t928 => ((selfstabref27_Centers.f k l0_0 l0_1 l1).bind fun t929 => (some (t928 == t929)))) else (none))) = some r := H
     have A18 := Aside0.mk A180
     clear A180
     replace H := Option.bind_eq_some_iff.mp H
     obtain ⟨⟨t923, t924, t925, t926, t927⟩, A190, H⟩ := H
     replace H : (if (t918 == t923 && (t919 == t924 && (t920 == t925 && (t921 == t926 && (t922 == t927))))) = true then ((center_Centers.f k l0_0 l0_1 l1).bind fun t928 => ((selfstabref27_Centers.f k l0_0 l0_1 l1).bind fun t929 => (some (t928 == t929)))) else (none)) = some r := H
     have A19 := Aside0.mk A190
     clear A190
     by_cases c20 : (t918 == t923 && (t919 == t924 && (t920 == t925 && (t921 == t926 && (t922 == t927))))) = true
     ·
      rw [if_pos c20] at H
      have c20b0 : (t918 == t923 && (t919 == t924 && (t920 == t925 && (t921 == t926 && (t922 == t927))))) = true := c20
      (try (have c20b1 : decide (t918 = t923 && (t919 == t924 && (t920 == t925 && (t921 == t926 && (t922 == t927))))) = true := by simpa using c20))
      (try (have c20b2 : (t918 == t923 && (t919 == t924 && (t920 == t925 && (t921 == t926 && (t922 == t927))))) = true := by simpa using c20))
      clear c20
      replace H := Option.bind_eq_some_iff.mp H
      obtain ⟨t928, A210, H⟩ := H
      replace H : ((selfstabref27_Centers.f k l0_0 l0_1 l1).bind fun t929 => (some (t928 == t929))) = some r := H
      have A21 := Aside0.mk A210
      clear A210
      replace H := Option.bind_eq_some_iff.mp H
      obtain ⟨t929, A220, H⟩ := H
      replace H : (some (t928 == t929)) = some r := H
      have A22 := Aside0.mk A220
      clear A220
      obtain rfl := Option.some.inj H
      go_enter Try.func8, Try.ntmps8
      try go_wp2_with (first | ((with_reducible refine gate_dst (N := 2) rfl ?_); refine box_event ?hg (N := 2) ?hd (cs := #[.slice A0_0 l0_0.length c0_0, .slice A0_1 l0_1.length c0_1]) (t := 27) ?hr ?_; (case hd => rfl); (case hg => rfl); (case hr => first | (go_simp; done) | (go_simp; rfl)); intro gb910 hg w23 hbox hb; have n0_ := Aside0.mk (below_step (by repeat (first | (with_reducible first | exact HB.out | apply below_alloc | apply pw_below_drewN | apply below_drew1) | exact HB.out)) hb); have n1_ := Aside0.mk (hbox); have n2_ := Aside0.mk ((by rw [hg]; exact (below_size (by repeat (first | (with_reducible first | exact HB.out | apply below_alloc | apply pw_below_drewN | apply below_drew1) | exact HB.out))) : w.heap.size ≤ gb910)); have n3_ := Aside0.mk ((by rw [hg]; exact (below_size (by repeat (first | (with_reducible first | exact HB.out | apply below_alloc | apply pw_below_drewN | apply below_drew1) | exact HB.out))) : w.heap.size ≤ gb910)); clear HB; have HB := n0_; have BK910 := n1_; have GW910 := n2_; have GE910 := n3_; clear n0_ n1_ n2_ n3_; clear hb hbox hg; have hcz24_0 : w23.cell? ⟨gb910, 0, none⟩ = some (.slice A0_0 l0_0.length c0_0) := (blk_cell BK910.out 0).trans rfl; have hcz24_1 : w23.cell? ⟨gb910, 1, none⟩ = some (.slice A0_1 l0_1.length c0_1) := (blk_cell BK910.out 1).trans rfl; have hfz24_0 := blk_frozen BK910.out 0; have hfz24_1 := blk_frozen BK910.out 1) | ((with_reducible refine gate_callee (f := 57) rfl ?_); refine goesL_ (some 7) rfl rfl Try.func57 (by kernel_rfl) rfl #[.agg #[.slice A0_0 l0_0.length c0_0, .slice A0_1 l0_1.length c0_1], .slice A1 l1.length c1] rfl (by (try simp only [List.map_toArray, List.map_cons, List.map_nil]); first | done | rfl | (simp only [List.length_drop, List.length_take]; rfl)) ?_; (with_reducible refine (selfstablaw27_large.calls _ _ l0_0 _ _ l0_1 _ _ l1 false _ ?side1 ?side2 ?side3 ?side4 ?side5 ?side6 A3.out).mono ?_); (case side1 => repeat (first | exact (Kd.C_below HR0_0.out HB.out) | (with_reducible refine Kd.C_alloc ?_ _) | (with_reducible refine Kd.C_drewN ?_ _) | (with_reducible refine Kd.C_drew ?_))); (case side2 => exact HC0_0.out); (case side3 => repeat (first | exact (Kd.C_below HR0_1.out HB.out) | (with_reducible refine Kd.C_alloc ?_ _) | (with_reducible refine Kd.C_drewN ?_ _) | (with_reducible refine Kd.C_drew ?_))); (case side4 => exact HC0_1.out); (case side5 => repeat (first | exact (Kd.C_below HR1.out HB.out) | (with_reducible refine Kd.C_alloc ?_ _) | (with_reducible refine Kd.C_drewN ?_ _) | (with_reducible refine Kd.C_drew ?_))); (case side6 => exact HC1.out); rintro e w25 ⟨rfl, hb⟩; refine ⟨_, rfl, ?_⟩; have n0_ := Aside0.mk (blk_below (g := gb910) (o := .cells #[.slice A0_0 l0_0.length c0_0, .slice A0_1 l0_1.length c0_1] 27 (0, 0)) (by (with_reducible repeat (first | refine blk_drewN ?_ _ | refine blk_drew ?_ | refine blk_alloc ?_ _)); exact BK910.out) hb); have n1_ := Aside0.mk (below_step (by repeat (first | (with_reducible first | exact HB.out | apply below_alloc | apply pw_below_drewN | apply below_drew1 | refine below_set ?_ GE910.out) | exact HB.out)) hb); clear BK910; clear HB; have BK910 := n0_; have HB := n1_; clear n0_ n1_; (try clear hb); (try clear hb2); (try clear hk); (try clear hi)))
      have n0_ := Aside0.mk (blk_drew BK910.out)
      have n1_ := Aside0.mk (below_drew1 HB.out)
      clear BK910
      clear HB
      have BK910 := n0_
      have HB := n1_
      clear n0_ n1_
      refine start_ (n := 34) (S := fun w' => w'.cell? ⟨gb910, 0, none⟩ = some (.slice A0_0 l0_0.length c0_0) ∧ w'.cell? ⟨gb910, 1, none⟩ = some (.slice A0_1 l0_1.length c0_1)) (ds := []) #[false, false, false, false, false, false, false, false, false, false, false, false, false, false, false, false, false, false, false, false, false, false, false, false, false, false, false, false, false, false, false, false, false, false] (by kernel_rfl) rfl rfl ⟨(blk_cell BK910.out 0).trans rfl, (blk_cell BK910.out 1).trans rfl⟩ (fun hHeld => ?_); refine with_tabW selfstablaw27_CenterJudges.tab3 selfstablaw27_CenterJudges.bits3 (fun HT_ HW_ => ?_)
      generalize w25.drew = w26 at BK910 HB hHeld ⊢
      refine one_ (i := 0) (N := some 9) #[true, false, false, false, false, false, false, false, false, false, false, false, false, false, false, false, false, false, false, false, false, false, false, false, false, false, false, false, false, false, false, false, false, false] rfl rfl (one_of HT_.out (by kernel_rfl)) (by decide) (fun K hK => ?_)
      refine goes_ Try.func58 (by kernel_rfl) rfl #[] (by rfl) rfl rfl (by (try simp only [List.map_toArray, List.map_cons, List.map_nil]); first | done | rfl | (simp only [List.length_drop, List.length_take]; rfl)) ?_
      with_reducible refine (selfstablaw27_known.calls k  true _ A10.out).mono ?_
      rintro e w27 ⟨rfl, hb⟩
      refine ⟨_, rfl, ?_⟩
      have n0_ := Aside0.mk (blk_below (g := gb910) (o := .cells #[.slice A0_0 l0_0.length c0_0, .slice A0_1 l0_1.length c0_1] 27 (0, 0)) (by (with_reducible repeat (first | refine blk_drewN ?_ _ | refine blk_drew ?_ | refine blk_alloc ?_ _)); exact BK910.out) hb)
      have n1_ := Aside0.mk (below_step (by repeat (first | (with_reducible first | exact HB.out | apply below_alloc | apply pw_below_drewN | apply below_drew1 | refine below_set ?_ GE910.out) | exact HB.out)) hb)
      clear BK910
      clear HB
      have BK910 := n0_
      have HB := n1_
      clear n0_ n1_
      (try clear hb)
      (try clear hb2)
      (try clear hk)
      (try clear hi)
      refine hK.out _ _ ⟨(blk_cell BK910.out 0).trans rfl, (blk_cell BK910.out 1).trans rfl⟩ (fun hHeld => ?_)
      clear hK K
      refine norm_ (a' := ?_) ?_ ?_
      rotate_left
      ·
       show Act.put _ (some 9) _ = _
       simp only [Act.put, List.setIfInBounds_toArray, List.set_cons_zero, List.set_cons_succ, i64_w, i32_w]
       rfl
      refine pure_ (i := 1) (N := some 10) (v := ?_) (a' := ?_) #[true, true, false, false, false, false, false, false, false, false, false, false, false, false, false, false, false, false, false, false, false, false, false, false, false, false, false, false, false, false, false, false, false, false] rfl rfl (any_of HT_.out (by kernel_rfl)) (fun _ _ _ h => h) (Or.inl ⟨by rfl, ?_⟩) ?_ ?_
      rotate_left
      ·
       intro w'
       go_simp
       with_reducible rfl
      rotate_left
      ·
       simp only [Act.put, List.setIfInBounds_toArray, List.set_cons_zero, List.set_cons_succ, i64_w, i32_w]
       rfl
      refine take_ (i := 2) (N := some 11) (v := ?_) (a' := ?_) #[true, true, true, false, false, false, false, false, false, false, false, false, false, false, false, false, false, false, false, false, false, false, false, false, false, false, false, false, false, false, false, false, false, false] rfl rfl (take_ofW HT_.out HW_.out (by kernel_rfl)) (fun _ _ _ h => h) (Or.inl ⟨by rfl, ?_⟩) hHeld ?_ ?_
      rotate_left
      ·
       rintro w' ⟨s0, s1⟩
       go_simp
       with_reducible rfl
      rotate_left
      ·
       simp only [Act.put, List.setIfInBounds_toArray, List.set_cons_zero, List.set_cons_succ, i64_w, i32_w]
       rfl
      refine take_ (i := 4) (N := some 13) (v := ?_) (a' := ?_) #[true, true, true, false, true, false, false, false, false, false, false, false, false, false, false, false, false, false, false, false, false, false, false, false, false, false, false, false, false, false, false, false, false, false] rfl rfl (take_ofW HT_.out HW_.out (by kernel_rfl)) (fun _ _ _ h => h) (Or.inl ⟨by rfl, ?_⟩) hHeld ?_ ?_
      rotate_left
      ·
       rintro w' ⟨s0, s1⟩
       go_simp
       with_reducible rfl
      rotate_left
      ·
       simp only [Act.put, List.setIfInBounds_toArray, List.set_cons_zero, List.set_cons_succ, i64_w, i32_w]
       rfl
      refine one_ (i := 3) (N := some 12) #[true, true, true, true, true, false, false, false, false, false, false, false, false, false, false, false, false, false, false, false, false, false, false, false, false, false, false, false, false, false, false, false, false, false] rfl rfl (one_of HT_.out (by kernel_rfl)) (by decide) (fun K hK => ?_)
      refine goes_ Try.func59 (by kernel_rfl) rfl #[.agg #[.slice A0_0 l0_0.length c0_0, .slice A0_1 l0_1.length c0_1]] (by rfl) rfl rfl (by (try simp only [List.map_toArray, List.map_cons, List.map_nil]); first | done | rfl | (simp only [List.length_drop, List.length_take]; rfl)) ?_
      with_reducible refine (center_Fit.calls k _ _ l0_0 _ _ l0_1 t914 _ ?side1 ?side2 ?side3 ?side4 A12.out).mono ?_
      (case side1 => repeat (first | exact (Kd.C_below HR0_0.out HB.out) | (with_reducible refine Kd.C_alloc ?_ _) | (with_reducible refine Kd.C_drewN ?_ _) | (with_reducible refine Kd.C_drew ?_)))
      (case side2 => exact HC0_0.out)
      (case side3 => repeat (first | exact (Kd.C_below HR0_1.out HB.out) | (with_reducible refine Kd.C_alloc ?_ _) | (with_reducible refine Kd.C_drewN ?_ _) | (with_reducible refine Kd.C_drew ?_)))
      (case side4 => exact HC0_1.out)
      rintro e w28 ⟨rfl, hb⟩
      refine ⟨_, rfl, ?_⟩
      have n0_ := Aside0.mk (blk_below (g := gb910) (o := .cells #[.slice A0_0 l0_0.length c0_0, .slice A0_1 l0_1.length c0_1] 27 (0, 0)) (by (with_reducible repeat (first | refine blk_drewN ?_ _ | refine blk_drew ?_ | refine blk_alloc ?_ _)); exact BK910.out) hb)
      have n1_ := Aside0.mk (below_step (by repeat (first | (with_reducible first | exact HB.out | apply below_alloc | apply pw_below_drewN | apply below_drew1 | refine below_set ?_ GE910.out) | exact HB.out)) hb)
      clear BK910
      clear HB
      have BK910 := n0_
      have HB := n1_
      clear n0_ n1_
      (try clear hb)
      (try clear hb2)
      (try clear hk)
      (try clear hi)
      refine hK.out _ _ ⟨(blk_cell BK910.out 0).trans rfl, (blk_cell BK910.out 1).trans rfl⟩ (fun hHeld => ?_)
      clear hK K
      refine norm_ (a' := ?_) ?_ ?_
      rotate_left
      ·
       show Act.put _ (some 12) _ = _
       simp only [Act.put, List.setIfInBounds_toArray, List.set_cons_zero, List.set_cons_succ, i64_w, i32_w]
       rfl
      refine one_ (i := 5) (N := some 14) #[true, true, true, true, true, true, false, false, false, false, false, false, false, false, false, false, false, false, false, false, false, false, false, false, false, false, false, false, false, false, false, false, false, false] rfl rfl (one_of HT_.out (by kernel_rfl)) (by decide) (fun K hK => ?_)
      refine goes_ Try.func60 (by kernel_rfl) rfl #[.agg #[.slice A0_0 l0_0.length c0_0, .slice A0_1 l0_1.length c0_1]] (by rfl) rfl rfl (by (try simp only [List.map_toArray, List.map_cons, List.map_nil]); first | done | rfl | (simp only [List.length_drop, List.length_take]; rfl)) ?_
      with_reducible refine (selfstabref27_Fit.calls k _ _ l0_0 _ _ l0_1 t915 _ ?side1 ?side2 ?side3 ?side4 A13.out).mono ?_
      (case side1 => repeat (first | exact (Kd.C_below HR0_0.out HB.out) | (with_reducible refine Kd.C_alloc ?_ _) | (with_reducible refine Kd.C_drewN ?_ _) | (with_reducible refine Kd.C_drew ?_)))
      (case side2 => exact HC0_0.out)
      (case side3 => repeat (first | exact (Kd.C_below HR0_1.out HB.out) | (with_reducible refine Kd.C_alloc ?_ _) | (with_reducible refine Kd.C_drewN ?_ _) | (with_reducible refine Kd.C_drew ?_)))
      (case side4 => exact HC0_1.out)
      rintro e w29 ⟨rfl, hb⟩
      refine ⟨_, rfl, ?_⟩
      have n0_ := Aside0.mk (blk_below (g := gb910) (o := .cells #[.slice A0_0 l0_0.length c0_0, .slice A0_1 l0_1.length c0_1] 27 (0, 0)) (by (with_reducible repeat (first | refine blk_drewN ?_ _ | refine blk_drew ?_ | refine blk_alloc ?_ _)); exact BK910.out) hb)
      have n1_ := Aside0.mk (below_step (by repeat (first | (with_reducible first | exact HB.out | apply below_alloc | apply pw_below_drewN | apply below_drew1 | refine below_set ?_ GE910.out) | exact HB.out)) hb)
      clear BK910
      clear HB
      have BK910 := n0_
      have HB := n1_
      clear n0_ n1_
      (try clear hb)
      (try clear hb2)
      (try clear hk)
      (try clear hi)
      refine hK.out _ _ ⟨(blk_cell BK910.out 0).trans rfl, (blk_cell BK910.out 1).trans rfl⟩ (fun hHeld => ?_)
      clear hK K
      refine norm_ (a' := ?_) ?_ ?_
      rotate_left
      ·
       show Act.put _ (some 14) _ = _
       simp only [Act.put, List.setIfInBounds_toArray, List.set_cons_zero, List.set_cons_succ, i64_w, i32_w]
       rfl
      refine pure_ (i := 6) (N := some 15) (v := ?_) (a' := ?_) #[true, true, true, true, true, true, true, false, false, false, false, false, false, false, false, false, false, false, false, false, false, false, false, false, false, false, false, false, false, false, false, false, false, false] rfl rfl (any_of HT_.out (by kernel_rfl)) (fun _ _ _ h => h) (Or.inl ⟨by rfl, ?_⟩) ?_ ?_
      rotate_left
      ·
       intro w'
       go_simp
       with_reducible rfl
      rotate_left
      ·
       simp only [Act.put, List.setIfInBounds_toArray, List.set_cons_zero, List.set_cons_succ, i64_w, i32_w]
       rfl
      refine pure_ (i := 7) (N := some 16) (v := ?_) (a' := ?_) #[true, true, true, true, true, true, true, true, false, false, false, false, false, false, false, false, false, false, false, false, false, false, false, false, false, false, false, false, false, false, false, false, false, false] rfl rfl (any_of HT_.out (by kernel_rfl)) (fun _ _ _ h => h) (Or.inl ⟨by rfl, ?_⟩) ?_ ?_
      rotate_left
      ·
       intro w'
       go_simp
       with_reducible rfl
      rotate_left
      ·
       simp only [Act.put, List.setIfInBounds_toArray, List.set_cons_zero, List.set_cons_succ, i64_w, i32_w]
       rfl
      refine pure_ (i := 8) (N := some 17) (v := ?_) (a' := ?_) #[true, true, true, true, true, true, true, true, true, false, false, false, false, false, false, false, false, false, false, false, false, false, false, false, false, false, false, false, false, false, false, false, false, false] rfl rfl (any_of HT_.out (by kernel_rfl)) (fun _ _ _ h => h) (Or.inl ⟨by rfl, ?_⟩) ?_ ?_
      rotate_left
      ·
       intro w'
       go_simp
       with_reducible rfl
      rotate_left
      ·
       simp only [Act.put, List.setIfInBounds_toArray, List.set_cons_zero, List.set_cons_succ, i64_w, i32_w]
       rfl
      refine pure_ (i := 10) (N := some 19) (v := ?_) (a' := ?_) #[true, true, true, true, true, true, true, true, true, false, true, false, false, false, false, false, false, false, false, false, false, false, false, false, false, false, false, false, false, false, false, false, false, false] rfl rfl (any_of HT_.out (by kernel_rfl)) (fun _ _ _ h => h) (Or.inl ⟨by rfl, ?_⟩) ?_ ?_
      rotate_left
      ·
       intro w'
       go_simp
       with_reducible rfl
      rotate_left
      ·
       simp only [Act.put, List.setIfInBounds_toArray, List.set_cons_zero, List.set_cons_succ, i64_w, i32_w]
       rfl
      refine pure_ (i := 13) (N := some 22) (v := ?_) (a' := ?_) #[true, true, true, true, true, true, true, true, true, false, true, false, false, true, false, false, false, false, false, false, false, false, false, false, false, false, false, false, false, false, false, false, false, false] rfl rfl (any_of HT_.out (by kernel_rfl)) (fun _ _ _ h => h) (Or.inl ⟨by rfl, ?_⟩) ?_ ?_
      rotate_left
      ·
       intro w'
       go_simp
       with_reducible rfl
      rotate_left
      ·
       simp only [Act.put, List.setIfInBounds_toArray, List.set_cons_zero, List.set_cons_succ, i64_w, i32_w]
       rfl
      refine take_ (i := 9) (N := some 18) (v := ?_) (a' := ?_) #[true, true, true, true, true, true, true, true, true, true, true, false, false, true, false, false, false, false, false, false, false, false, false, false, false, false, false, false, false, false, false, false, false, false] rfl rfl (take_ofW HT_.out HW_.out (by kernel_rfl)) (fun _ _ _ h => h) (Or.inl ⟨by rfl, ?_⟩) hHeld ?_ ?_
      rotate_left
      ·
       rintro w' ⟨s0, s1⟩
       go_simp
       with_reducible rfl
      rotate_left
      ·
       simp only [Act.put, List.setIfInBounds_toArray, List.set_cons_zero, List.set_cons_succ, i64_w, i32_w]
       rfl
      refine take_ (i := 12) (N := some 21) (v := ?_) (a' := ?_) #[true, true, true, true, true, true, true, true, true, true, true, false, true, true, false, false, false, false, false, false, false, false, false, false, false, false, false, false, false, false, false, false, false, false] rfl rfl (take_ofW HT_.out HW_.out (by kernel_rfl)) (fun _ _ _ h => h) (Or.inl ⟨by rfl, ?_⟩) hHeld ?_ ?_
      rotate_left
      ·
       rintro w' ⟨s0, s1⟩
       go_simp
       with_reducible rfl
      rotate_left
      ·
       simp only [Act.put, List.setIfInBounds_toArray, List.set_cons_zero, List.set_cons_succ, i64_w, i32_w]
       rfl
      refine one_ (i := 11) (N := some 20) #[true, true, true, true, true, true, true, true, true, true, true, true, true, true, false, false, false, false, false, false, false, false, false, false, false, false, false, false, false, false, false, false, false, false] rfl rfl (one_of HT_.out (by kernel_rfl)) (by decide) (fun K hK => ?_)
      refine goes_ Try.func61 (by kernel_rfl) rfl #[.agg #[.slice A0_0 l0_0.length c0_0, .slice A0_1 l0_1.length c0_1], .slice A1 l1.length c1] (by rfl) rfl rfl (by (try simp only [List.map_toArray, List.map_cons, List.map_nil]); first | done | rfl | (simp only [List.length_drop, List.length_take]; rfl)) ?_
      with_reducible refine (center_Legit.calls k _ _ l0_0 _ _ l0_1 _ _ l1 t916 _ ?side1 ?side2 ?side3 ?side4 ?side5 ?side6 A15.out).mono ?_
      (case side1 => repeat (first | exact (Kd.C_below HR0_0.out HB.out) | (with_reducible refine Kd.C_alloc ?_ _) | (with_reducible refine Kd.C_drewN ?_ _) | (with_reducible refine Kd.C_drew ?_)))
      (case side2 => exact HC0_0.out)
      (case side3 => repeat (first | exact (Kd.C_below HR0_1.out HB.out) | (with_reducible refine Kd.C_alloc ?_ _) | (with_reducible refine Kd.C_drewN ?_ _) | (with_reducible refine Kd.C_drew ?_)))
      (case side4 => exact HC0_1.out)
      (case side5 => repeat (first | exact (Kd.C_below HR1.out HB.out) | (with_reducible refine Kd.C_alloc ?_ _) | (with_reducible refine Kd.C_drewN ?_ _) | (with_reducible refine Kd.C_drew ?_)))
      (case side6 => exact HC1.out)
      rintro e w30 ⟨rfl, hb⟩
      refine ⟨_, rfl, ?_⟩
      have n0_ := Aside0.mk (blk_below (g := gb910) (o := .cells #[.slice A0_0 l0_0.length c0_0, .slice A0_1 l0_1.length c0_1] 27 (0, 0)) (by (with_reducible repeat (first | refine blk_drewN ?_ _ | refine blk_drew ?_ | refine blk_alloc ?_ _)); exact BK910.out) hb)
      have n1_ := Aside0.mk (below_step (by repeat (first | (with_reducible first | exact HB.out | apply below_alloc | apply pw_below_drewN | apply below_drew1 | refine below_set ?_ GE910.out) | exact HB.out)) hb)
      clear BK910
      clear HB
      have BK910 := n0_
      have HB := n1_
      clear n0_ n1_
      (try clear hb)
      (try clear hb2)
      (try clear hk)
      (try clear hi)
      refine hK.out _ _ ⟨(blk_cell BK910.out 0).trans rfl, (blk_cell BK910.out 1).trans rfl⟩ (fun hHeld => ?_)
      clear hK K
      refine norm_ (a' := ?_) ?_ ?_
      rotate_left
      ·
       show Act.put _ (some 20) _ = _
       simp only [Act.put, List.setIfInBounds_toArray, List.set_cons_zero, List.set_cons_succ, i64_w, i32_w]
       rfl
      refine one_ (i := 14) (N := some 23) #[true, true, true, true, true, true, true, true, true, true, true, true, true, true, true, false, false, false, false, false, false, false, false, false, false, false, false, false, false, false, false, false, false, false] rfl rfl (one_of HT_.out (by kernel_rfl)) (by decide) (fun K hK => ?_)
      refine goes_ Try.func62 (by kernel_rfl) rfl #[.agg #[.slice A0_0 l0_0.length c0_0, .slice A0_1 l0_1.length c0_1], .slice A1 l1.length c1] (by rfl) rfl rfl (by (try simp only [List.map_toArray, List.map_cons, List.map_nil]); first | done | rfl | (simp only [List.length_drop, List.length_take]; rfl)) ?_
      with_reducible refine (selfstabref27_Legit.calls k _ _ l0_0 _ _ l0_1 _ _ l1 t917 _ ?side1 ?side2 ?side3 ?side4 ?side5 ?side6 A16.out).mono ?_
      (case side1 => repeat (first | exact (Kd.C_below HR0_0.out HB.out) | (with_reducible refine Kd.C_alloc ?_ _) | (with_reducible refine Kd.C_drewN ?_ _) | (with_reducible refine Kd.C_drew ?_)))
      (case side2 => exact HC0_0.out)
      (case side3 => repeat (first | exact (Kd.C_below HR0_1.out HB.out) | (with_reducible refine Kd.C_alloc ?_ _) | (with_reducible refine Kd.C_drewN ?_ _) | (with_reducible refine Kd.C_drew ?_)))
      (case side4 => exact HC0_1.out)
      (case side5 => repeat (first | exact (Kd.C_below HR1.out HB.out) | (with_reducible refine Kd.C_alloc ?_ _) | (with_reducible refine Kd.C_drewN ?_ _) | (with_reducible refine Kd.C_drew ?_)))
      (case side6 => exact HC1.out)
      rintro e w31 ⟨rfl, hb⟩
      refine ⟨_, rfl, ?_⟩
      have n0_ := Aside0.mk (blk_below (g := gb910) (o := .cells #[.slice A0_0 l0_0.length c0_0, .slice A0_1 l0_1.length c0_1] 27 (0, 0)) (by (with_reducible repeat (first | refine blk_drewN ?_ _ | refine blk_drew ?_ | refine blk_alloc ?_ _)); exact BK910.out) hb)
      have n1_ := Aside0.mk (below_step (by repeat (first | (with_reducible first | exact HB.out | apply below_alloc | apply pw_below_drewN | apply below_drew1 | refine below_set ?_ GE910.out) | exact HB.out)) hb)
      clear BK910
      clear HB
      have BK910 := n0_
      have HB := n1_
      clear n0_ n1_
      (try clear hb)
      (try clear hb2)
      (try clear hk)
      (try clear hi)
      refine hK.out _ _ ⟨(blk_cell BK910.out 0).trans rfl, (blk_cell BK910.out 1).trans rfl⟩ (fun hHeld => ?_)
      clear hK K
      refine norm_ (a' := ?_) ?_ ?_
      rotate_left
      ·
       show Act.put _ (some 23) _ = _
       simp only [Act.put, List.setIfInBounds_toArray, List.set_cons_zero, List.set_cons_succ, i64_w, i32_w]
       rfl
      refine pure_ (i := 15) (N := some 24) (v := ?_) (a' := ?_) #[true, true, true, true, true, true, true, true, true, true, true, true, true, true, true, true, false, false, false, false, false, false, false, false, false, false, false, false, false, false, false, false, false, false] rfl rfl (any_of HT_.out (by kernel_rfl)) (fun _ _ _ h => h) (Or.inl ⟨by rfl, ?_⟩) ?_ ?_
      rotate_left
      ·
       intro w'
       go_simp
       with_reducible rfl
      rotate_left
      ·
       simp only [Act.put, List.setIfInBounds_toArray, List.set_cons_zero, List.set_cons_succ, i64_w, i32_w]
       rfl
      refine pure_ (i := 16) (N := some 25) (v := ?_) (a' := ?_) #[true, true, true, true, true, true, true, true, true, true, true, true, true, true, true, true, true, false, false, false, false, false, false, false, false, false, false, false, false, false, false, false, false, false] rfl rfl (any_of HT_.out (by kernel_rfl)) (fun _ _ _ h => h) (Or.inl ⟨by rfl, ?_⟩) ?_ ?_
      rotate_left
      ·
       intro w'
       go_simp
       with_reducible rfl
      rotate_left
      ·
       simp only [Act.put, List.setIfInBounds_toArray, List.set_cons_zero, List.set_cons_succ, i64_w, i32_w]
       rfl
      refine pure_ (i := 17) (N := some 26) (v := ?_) (a' := ?_) #[true, true, true, true, true, true, true, true, true, true, true, true, true, true, true, true, true, true, false, false, false, false, false, false, false, false, false, false, false, false, false, false, false, false] rfl rfl (any_of HT_.out (by kernel_rfl)) (fun _ _ _ h => h) (Or.inl ⟨by rfl, ?_⟩) ?_ ?_
      rotate_left
      ·
       intro w'
       go_simp
       with_reducible rfl
      rotate_left
      ·
       simp only [Act.put, List.setIfInBounds_toArray, List.set_cons_zero, List.set_cons_succ, i64_w, i32_w]
       rfl
      refine take_ (i := 18) (N := some 27) (v := ?_) (a' := ?_) #[true, true, true, true, true, true, true, true, true, true, true, true, true, true, true, true, true, true, true, false, false, false, false, false, false, false, false, false, false, false, false, false, false, false] rfl rfl (take_ofW HT_.out HW_.out (by kernel_rfl)) (fun _ _ _ h => h) (Or.inl ⟨by rfl, ?_⟩) hHeld ?_ ?_
      rotate_left
      ·
       rintro w' ⟨s0, s1⟩
       go_simp
       with_reducible rfl
      rotate_left
      ·
       simp only [Act.put, List.setIfInBounds_toArray, List.set_cons_zero, List.set_cons_succ, i64_w, i32_w]
       rfl
      refine take_ (i := 20) (N := some 29) (v := ?_) (a' := ?_) #[true, true, true, true, true, true, true, true, true, true, true, true, true, true, true, true, true, true, true, false, true, false, false, false, false, false, false, false, false, false, false, false, false, false] rfl rfl (take_ofW HT_.out HW_.out (by kernel_rfl)) (fun _ _ _ h => h) (Or.inl ⟨by rfl, ?_⟩) hHeld ?_ ?_
      rotate_left
      ·
       rintro w' ⟨s0, s1⟩
       go_simp
       with_reducible rfl
      rotate_left
      ·
       simp only [Act.put, List.setIfInBounds_toArray, List.set_cons_zero, List.set_cons_succ, i64_w, i32_w]
       rfl
      refine one_ (i := 19) (N := some 28) #[true, true, true, true, true, true, true, true, true, true, true, true, true, true, true, true, true, true, true, true, true, false, false, false, false, false, false, false, false, false, false, false, false, false] rfl rfl (one_of HT_.out (by kernel_rfl)) (by decide) (fun K hK => ?_)
      refine goes_ Try.func63 (by kernel_rfl) rfl #[.agg #[.slice A0_0 l0_0.length c0_0, .slice A0_1 l0_1.length c0_1]] (by rfl) rfl rfl (by (try simp only [List.map_toArray, List.map_cons, List.map_nil]); first | done | rfl | (simp only [List.length_drop, List.length_take]; rfl)) ?_
      with_reducible refine (center_Claim.calls k _ _ l0_0 _ _ l0_1 t918 t919 t920 t921 t922 _ ?side1 ?side2 ?side3 ?side4 A18.out).mono ?_
      (case side1 => repeat (first | exact (Kd.C_below HR0_0.out HB.out) | (with_reducible refine Kd.C_alloc ?_ _) | (with_reducible refine Kd.C_drewN ?_ _) | (with_reducible refine Kd.C_drew ?_)))
      (case side2 => exact HC0_0.out)
      (case side3 => repeat (first | exact (Kd.C_below HR0_1.out HB.out) | (with_reducible refine Kd.C_alloc ?_ _) | (with_reducible refine Kd.C_drewN ?_ _) | (with_reducible refine Kd.C_drew ?_)))
      (case side4 => exact HC0_1.out)
      rintro e w32 ⟨rfl, hb⟩
      refine ⟨_, rfl, ?_⟩
      have n0_ := Aside0.mk (blk_below (g := gb910) (o := .cells #[.slice A0_0 l0_0.length c0_0, .slice A0_1 l0_1.length c0_1] 27 (0, 0)) (by (with_reducible repeat (first | refine blk_drewN ?_ _ | refine blk_drew ?_ | refine blk_alloc ?_ _)); exact BK910.out) hb)
      have n1_ := Aside0.mk (below_step (by repeat (first | (with_reducible first | exact HB.out | apply below_alloc | apply pw_below_drewN | apply below_drew1 | refine below_set ?_ GE910.out) | exact HB.out)) hb)
      clear BK910
      clear HB
      have BK910 := n0_
      have HB := n1_
      clear n0_ n1_
      (try clear hb)
      (try clear hb2)
      (try clear hk)
      (try clear hi)
      refine hK.out _ _ ⟨(blk_cell BK910.out 0).trans rfl, (blk_cell BK910.out 1).trans rfl⟩ (fun hHeld => ?_)
      clear hK K
      refine norm_ (a' := ?_) ?_ ?_
      rotate_left
      ·
       show Act.put _ (some 28) _ = _
       simp only [Act.put, List.setIfInBounds_toArray, List.set_cons_zero, List.set_cons_succ, i64_w, i32_w]
       rfl
      refine one_ (i := 21) (N := some 30) #[true, true, true, true, true, true, true, true, true, true, true, true, true, true, true, true, true, true, true, true, true, true, false, false, false, false, false, false, false, false, false, false, false, false] rfl rfl (one_of HT_.out (by kernel_rfl)) (by decide) (fun K hK => ?_)
      refine goes_ Try.func64 (by kernel_rfl) rfl #[.agg #[.slice A0_0 l0_0.length c0_0, .slice A0_1 l0_1.length c0_1]] (by rfl) rfl rfl (by (try simp only [List.map_toArray, List.map_cons, List.map_nil]); first | done | rfl | (simp only [List.length_drop, List.length_take]; rfl)) ?_
      with_reducible refine (selfstabref27_Claim.calls k _ _ l0_0 _ _ l0_1 t923 t924 t925 t926 t927 _ ?side1 ?side2 ?side3 ?side4 A19.out).mono ?_
      (case side1 => repeat (first | exact (Kd.C_below HR0_0.out HB.out) | (with_reducible refine Kd.C_alloc ?_ _) | (with_reducible refine Kd.C_drewN ?_ _) | (with_reducible refine Kd.C_drew ?_)))
      (case side2 => exact HC0_0.out)
      (case side3 => repeat (first | exact (Kd.C_below HR0_1.out HB.out) | (with_reducible refine Kd.C_alloc ?_ _) | (with_reducible refine Kd.C_drewN ?_ _) | (with_reducible refine Kd.C_drew ?_)))
      (case side4 => exact HC0_1.out)
      rintro e w33 ⟨rfl, hb⟩
      refine ⟨_, rfl, ?_⟩
      have n0_ := Aside0.mk (blk_below (g := gb910) (o := .cells #[.slice A0_0 l0_0.length c0_0, .slice A0_1 l0_1.length c0_1] 27 (0, 0)) (by (with_reducible repeat (first | refine blk_drewN ?_ _ | refine blk_drew ?_ | refine blk_alloc ?_ _)); exact BK910.out) hb)
      have n1_ := Aside0.mk (below_step (by repeat (first | (with_reducible first | exact HB.out | apply below_alloc | apply pw_below_drewN | apply below_drew1 | refine below_set ?_ GE910.out) | exact HB.out)) hb)
      clear BK910
      clear HB
      have BK910 := n0_
      have HB := n1_
      clear n0_ n1_
      (try clear hb)
      (try clear hb2)
      (try clear hk)
      (try clear hi)
      refine hK.out _ _ ⟨(blk_cell BK910.out 0).trans rfl, (blk_cell BK910.out 1).trans rfl⟩ (fun hHeld => ?_)
      clear hK K
      refine norm_ (a' := ?_) ?_ ?_
      rotate_left
      ·
       show Act.put _ (some 30) _ = _
       simp only [Act.put, List.setIfInBounds_toArray, List.set_cons_zero, List.set_cons_succ, i64_w, i32_w]
       rfl
      refine pure_ (i := 22) (N := some 31) (v := ?_) (a' := ?_) #[true, true, true, true, true, true, true, true, true, true, true, true, true, true, true, true, true, true, true, true, true, true, true, false, false, false, false, false, false, false, false, false, false, false] rfl rfl (any_of HT_.out (by kernel_rfl)) (fun _ _ _ h => h) (Or.inl ⟨by rfl, ?_⟩) ?_ ?_
      rotate_left
      ·
       intro w'
       go_simp
       with_reducible rfl
      rotate_left
      ·
       simp only [Act.put, List.setIfInBounds_toArray, List.set_cons_zero, List.set_cons_succ, i64_w, i32_w]
       rfl
      refine pure_ (i := 23) (N := some 32) (v := ?_) (a' := ?_) #[true, true, true, true, true, true, true, true, true, true, true, true, true, true, true, true, true, true, true, true, true, true, true, true, false, false, false, false, false, false, false, false, false, false] rfl rfl (any_of HT_.out (by kernel_rfl)) (fun _ _ _ h => h) (Or.inl ⟨by rfl, ?_⟩) ?_ ?_
      rotate_left
      ·
       intro w'
       go_simp
       with_reducible rfl
      rotate_left
      ·
       simp only [Act.put, List.setIfInBounds_toArray, List.set_cons_zero, List.set_cons_succ, i64_w, i32_w]
       rfl
      refine pure_ (i := 24) (N := some 33) (v := ?_) (a' := ?_) #[true, true, true, true, true, true, true, true, true, true, true, true, true, true, true, true, true, true, true, true, true, true, true, true, true, false, false, false, false, false, false, false, false, false] rfl rfl (any_of HT_.out (by kernel_rfl)) (fun _ _ _ h => h) (Or.inl ⟨by rfl, ?_⟩) ?_ ?_
      rotate_left
      ·
       intro w'
       go_simp
       with_reducible rfl
      rotate_left
      ·
       simp only [Act.put, List.setIfInBounds_toArray, List.set_cons_zero, List.set_cons_succ, i64_w, i32_w]
       rfl
      refine pure_ (i := 26) (N := some 35) (v := ?_) (a' := ?_) #[true, true, true, true, true, true, true, true, true, true, true, true, true, true, true, true, true, true, true, true, true, true, true, true, true, false, true, false, false, false, false, false, false, false] rfl rfl (any_of HT_.out (by kernel_rfl)) (fun _ _ _ h => h) (Or.inl ⟨by rfl, ?_⟩) ?_ ?_
      rotate_left
      ·
       intro w'
       go_simp
       with_reducible rfl
      rotate_left
      ·
       simp only [Act.put, List.setIfInBounds_toArray, List.set_cons_zero, List.set_cons_succ, i64_w, i32_w]
       rfl
      refine pure_ (i := 29) (N := some 38) (v := ?_) (a' := ?_) #[true, true, true, true, true, true, true, true, true, true, true, true, true, true, true, true, true, true, true, true, true, true, true, true, true, false, true, false, false, true, false, false, false, false] rfl rfl (any_of HT_.out (by kernel_rfl)) (fun _ _ _ h => h) (Or.inl ⟨by rfl, ?_⟩) ?_ ?_
      rotate_left
      ·
       intro w'
       go_simp
       with_reducible rfl
      rotate_left
      ·
       simp only [Act.put, List.setIfInBounds_toArray, List.set_cons_zero, List.set_cons_succ, i64_w, i32_w]
       rfl
      refine take_ (i := 25) (N := some 34) (v := ?_) (a' := ?_) #[true, true, true, true, true, true, true, true, true, true, true, true, true, true, true, true, true, true, true, true, true, true, true, true, true, true, true, false, false, true, false, false, false, false] rfl rfl (take_ofW HT_.out HW_.out (by kernel_rfl)) (fun _ _ _ h => h) (Or.inl ⟨by rfl, ?_⟩) hHeld ?_ ?_
      rotate_left
      ·
       rintro w' ⟨s0, s1⟩
       go_simp
       with_reducible rfl
      rotate_left
      ·
       simp only [Act.put, List.setIfInBounds_toArray, List.set_cons_zero, List.set_cons_succ, i64_w, i32_w]
       rfl
      refine take_ (i := 28) (N := some 37) (v := ?_) (a' := ?_) #[true, true, true, true, true, true, true, true, true, true, true, true, true, true, true, true, true, true, true, true, true, true, true, true, true, true, true, false, true, true, false, false, false, false] rfl rfl (take_ofW HT_.out HW_.out (by kernel_rfl)) (fun _ _ _ h => h) (Or.inl ⟨by rfl, ?_⟩) hHeld ?_ ?_
      rotate_left
      ·
       rintro w' ⟨s0, s1⟩
       go_simp
       with_reducible rfl
      rotate_left
      ·
       simp only [Act.put, List.setIfInBounds_toArray, List.set_cons_zero, List.set_cons_succ, i64_w, i32_w]
       rfl
      refine one_ (i := 27) (N := some 36) #[true, true, true, true, true, true, true, true, true, true, true, true, true, true, true, true, true, true, true, true, true, true, true, true, true, true, true, true, true, true, false, false, false, false] rfl rfl (one_of HT_.out (by kernel_rfl)) (by decide) (fun K hK => ?_)
      refine goes_ Try.func65 (by kernel_rfl) rfl #[.agg #[.slice A0_0 l0_0.length c0_0, .slice A0_1 l0_1.length c0_1], .slice A1 l1.length c1] (by rfl) rfl rfl (by (try simp only [List.map_toArray, List.map_cons, List.map_nil]); first | done | rfl | (simp only [List.length_drop, List.length_take]; rfl)) ?_
      with_reducible refine (center_Centers.calls k _ _ l0_0 _ _ l0_1 _ _ l1 t928 _ ?side1 ?side2 ?side3 ?side4 ?side5 ?side6 A21.out).mono ?_
      (case side1 => repeat (first | exact (Kd.C_below HR0_0.out HB.out) | (with_reducible refine Kd.C_alloc ?_ _) | (with_reducible refine Kd.C_drewN ?_ _) | (with_reducible refine Kd.C_drew ?_)))
      (case side2 => exact HC0_0.out)
      (case side3 => repeat (first | exact (Kd.C_below HR0_1.out HB.out) | (with_reducible refine Kd.C_alloc ?_ _) | (with_reducible refine Kd.C_drewN ?_ _) | (with_reducible refine Kd.C_drew ?_)))
      (case side4 => exact HC0_1.out)
      (case side5 => repeat (first | exact (Kd.C_below HR1.out HB.out) | (with_reducible refine Kd.C_alloc ?_ _) | (with_reducible refine Kd.C_drewN ?_ _) | (with_reducible refine Kd.C_drew ?_)))
      (case side6 => exact HC1.out)
      rintro e w34 ⟨rfl, hb⟩
      refine ⟨_, rfl, ?_⟩
      have n0_ := Aside0.mk (blk_below (g := gb910) (o := .cells #[.slice A0_0 l0_0.length c0_0, .slice A0_1 l0_1.length c0_1] 27 (0, 0)) (by (with_reducible repeat (first | refine blk_drewN ?_ _ | refine blk_drew ?_ | refine blk_alloc ?_ _)); exact BK910.out) hb)
      have n1_ := Aside0.mk (below_step (by repeat (first | (with_reducible first | exact HB.out | apply below_alloc | apply pw_below_drewN | apply below_drew1 | refine below_set ?_ GE910.out) | exact HB.out)) hb)
      clear BK910
      clear HB
      have BK910 := n0_
      have HB := n1_
      clear n0_ n1_
      (try clear hb)
      (try clear hb2)
      (try clear hk)
      (try clear hi)
      refine hK.out _ _ ⟨(blk_cell BK910.out 0).trans rfl, (blk_cell BK910.out 1).trans rfl⟩ (fun hHeld => ?_)
      clear hK K
      refine norm_ (a' := ?_) ?_ ?_
      rotate_left
      ·
       show Act.put _ (some 36) _ = _
       simp only [Act.put, List.setIfInBounds_toArray, List.set_cons_zero, List.set_cons_succ, i64_w, i32_w]
       rfl
      refine one_ (i := 30) (N := some 39) #[true, true, true, true, true, true, true, true, true, true, true, true, true, true, true, true, true, true, true, true, true, true, true, true, true, true, true, true, true, true, true, false, false, false] rfl rfl (one_of HT_.out (by kernel_rfl)) (by decide) (fun K hK => ?_)
      refine goes_ Try.func66 (by kernel_rfl) rfl #[.agg #[.slice A0_0 l0_0.length c0_0, .slice A0_1 l0_1.length c0_1], .slice A1 l1.length c1] (by rfl) rfl rfl (by (try simp only [List.map_toArray, List.map_cons, List.map_nil]); first | done | rfl | (simp only [List.length_drop, List.length_take]; rfl)) ?_
      with_reducible refine (selfstabref27_Centers.calls k _ _ l0_0 _ _ l0_1 _ _ l1 t929 _ ?side1 ?side2 ?side3 ?side4 ?side5 ?side6 A22.out).mono ?_
      (case side1 => repeat (first | exact (Kd.C_below HR0_0.out HB.out) | (with_reducible refine Kd.C_alloc ?_ _) | (with_reducible refine Kd.C_drewN ?_ _) | (with_reducible refine Kd.C_drew ?_)))
      (case side2 => exact HC0_0.out)
      (case side3 => repeat (first | exact (Kd.C_below HR0_1.out HB.out) | (with_reducible refine Kd.C_alloc ?_ _) | (with_reducible refine Kd.C_drewN ?_ _) | (with_reducible refine Kd.C_drew ?_)))
      (case side4 => exact HC0_1.out)
      (case side5 => repeat (first | exact (Kd.C_below HR1.out HB.out) | (with_reducible refine Kd.C_alloc ?_ _) | (with_reducible refine Kd.C_drewN ?_ _) | (with_reducible refine Kd.C_drew ?_)))
      (case side6 => exact HC1.out)
      rintro e w35 ⟨rfl, hb⟩
      refine ⟨_, rfl, ?_⟩
      have n0_ := Aside0.mk (blk_below (g := gb910) (o := .cells #[.slice A0_0 l0_0.length c0_0, .slice A0_1 l0_1.length c0_1] 27 (0, 0)) (by (with_reducible repeat (first | refine blk_drewN ?_ _ | refine blk_drew ?_ | refine blk_alloc ?_ _)); exact BK910.out) hb)
      have n1_ := Aside0.mk (below_step (by repeat (first | (with_reducible first | exact HB.out | apply below_alloc | apply pw_below_drewN | apply below_drew1 | refine below_set ?_ GE910.out) | exact HB.out)) hb)
      clear BK910
      clear HB
      have BK910 := n0_
      have HB := n1_
      clear n0_ n1_
      (try clear hb)
      (try clear hb2)
      (try clear hk)
      (try clear hi)
      refine hK.out _ _ ⟨(blk_cell BK910.out 0).trans rfl, (blk_cell BK910.out 1).trans rfl⟩ (fun hHeld => ?_)
      clear hK K
      refine norm_ (a' := ?_) ?_ ?_
      rotate_left
      ·
       show Act.put _ (some 39) _ = _
       simp only [Act.put, List.setIfInBounds_toArray, List.set_cons_zero, List.set_cons_succ, i64_w, i32_w]
       rfl
      refine pure_ (i := 31) (N := some 40) (v := ?_) (a' := ?_) #[true, true, true, true, true, true, true, true, true, true, true, true, true, true, true, true, true, true, true, true, true, true, true, true, true, true, true, true, true, true, true, true, false, false] rfl rfl (any_of HT_.out (by kernel_rfl)) (fun _ _ _ h => h) (Or.inl ⟨by rfl, ?_⟩) ?_ ?_
      rotate_left
      ·
       intro w'
       go_simp
       with_reducible rfl
      rotate_left
      ·
       simp only [Act.put, List.setIfInBounds_toArray, List.set_cons_zero, List.set_cons_succ, i64_w, i32_w]
       rfl
      refine pure_ (i := 32) (N := some 41) (v := ?_) (a' := ?_) #[true, true, true, true, true, true, true, true, true, true, true, true, true, true, true, true, true, true, true, true, true, true, true, true, true, true, true, true, true, true, true, true, true, false] rfl rfl (any_of HT_.out (by kernel_rfl)) (fun _ _ _ h => h) (Or.inl ⟨by rfl, ?_⟩) ?_ ?_
      rotate_left
      ·
       intro w'
       go_simp
       with_reducible rfl
      rotate_left
      ·
       simp only [Act.put, List.setIfInBounds_toArray, List.set_cons_zero, List.set_cons_succ, i64_w, i32_w]
       rfl
      refine pure_ (i := 33) (N := some 4) (v := ?_) (a' := ?_) #[true, true, true, true, true, true, true, true, true, true, true, true, true, true, true, true, true, true, true, true, true, true, true, true, true, true, true, true, true, true, true, true, true, true] rfl rfl (any_of HT_.out (by kernel_rfl)) (fun _ _ _ h => h) (Or.inl ⟨by rfl, ?_⟩) ?_ ?_
      rotate_left
      ·
       intro w'
       go_simp
       with_reducible rfl
      rotate_left
      ·
       simp only [Act.put, List.setIfInBounds_toArray, List.set_cons_zero, List.set_cons_succ, i64_w, i32_w]
       rfl
      refine done_ (done_of HT_.out (by kernel_rfl)) ?_
      try go_wp2
      go_ret
      exact ⟨by first | rfl | (simp [errW_none, errW_some] <;> rfl) | (simp [*, errW_none, errW_some] <;> rfl), by repeat (first | (with_reducible first | exact HB.out | apply below_alloc | apply pw_below_drewN | apply below_drew1 | refine below_set ?_ GE910.out) | exact HB.out)⟩
     ·
      rw [if_neg c20] at H
      exact absurd H (by simp)
    ·
     rw [if_neg c17] at H
     exact absurd H (by simp)
   ·
    rw [if_neg c14] at H
    exact absurd H (by simp)
  ·
   replace c11 := Bool.eq_false_iff.mpr c11
   subst c11
   have H1 : (none) = some r := by rw [if_neg (show ¬ (false = true) by decide)] at H; exact H
   clear H
   have H := H1
   clear H1
   exact absurd H (by simp)
end Go.Proofs.YthapikakneikbaaG
namespace Go.Proofs.YthapikakneikbaaG
open Go.RowKit Go.Proofs.YthapikakneikbaaW.PrintWords Go.Proofs.YthapikakneikbaaW.PrintMore
open Go.Proofs.Ythapikakneikbaa (holdsB confB bitsOf bitsOf_lt bitsOf_small testBit_bitsOf bitsOf_congr peaksB peakB vl allB)
section
variable {ids : List Int} {p : List (List S60)} {c : List (List Int)}
theorem all27_no {q : Nat → Bool} {n i : Nat} (hi : i < n) (h : q i = false) : (List.range n).all q = false := by
 rw [List.all_eq_false]
 exact ⟨i, List.mem_range.2 hi, by simp [h]⟩
theorem all27_up {q : Nat → Bool} {i : Nat} : (List.range (i + 1)).all q = ((List.range i).all q && q i) := by
 rw [List.range_succ, List.all_append]
 simp
theorem fitC_ev : Ev (fun k => center_Fit.f k ids p) (treeG ids p) := Ev.bind tree_ev Ev.some
theorem rfitC_ev : Ev (fun k => selfstabref27_Fit.f k ids p) (treeG ids p) := Ev.bind rtree_ev Ev.some
def centConf (ids : List Int) (p : List (List S60)) (c : List (List Int)) : Bool := treeG ids p && holdsB (toG ids p) c [(p.length : Int)]
theorem centConf_rows (h : centConf ids p c = true) : treeG ids p = true ∧ (toG ids p).valid = true ∧ c.length = p.length ∧ c.length ≤ 24 ∧ ∀ v, v < c.length → (c.getD v []).length = 1 := by
 unfold centConf at h
 rw [Bool.and_eq_true] at h
 have h1 := conn_valid (tree_conn h.1).1
 obtain ⟨h3, h4⟩ := holds_rows h.2
 rw [toG_len] at h3
 have := valid_size h1
 exact ⟨h.1, h1, h3, by omega, fun v hv => (h4 v hv).1⟩
theorem centConf_ev : Ev (fun k => center_configuration.f k ids p c) (centConf ids p c) := by
 unfold center_configuration.f centConf
 refine Ev.bind fitC_ev ?_
 cases treeG ids p with
 | false => exact Ev.congr (f := fun _ => some false) (fun k => by rw [if_neg (by simp)]) Ev.some
 | true => exact Ev.congr (f := fun _ => some (holdsB (toG ids p) c [(p.length : Int)])) (fun k => by rw [if_pos rfl]; rfl) (Ev.some' (Bool.true_and _).symm)
theorem vl_rd {v : Nat} : rd (rd_L3 c (v : Int)) 0 = vl c v 0 := by
 rw [rdRow_nat]
 rfl
def exactB (p : List (List S60)) (c : List (List Int)) (v : Nat) : Bool := decide (vl c v 0 = htF p v)
def centLegit (ids : List Int) (p : List (List S60)) (c : List (List Int)) : Bool := centConf ids p c && (List.range p.length).all (exactB p c)
theorem legitC_l0 (hp : p.length ≤ 24) (hc : c.length = p.length) (hr : ∀ v, v < c.length → (c.getD v []).length = 1) : ∀ m i, m + i = p.length → (List.range i).all (exactB p c) = true →
  Ev (fun k => center_Legit.l0 k c (outL p.length (htF p)) (p.length : Int) (i : Int)) ((List.range p.length).all (exactB p c)) := by
 intro m
 induction m with
 | zero =>
  intro i hm h
  obtain rfl : i = p.length := by omega
  refine Ev.step (f := fun _ => some true) (fun k => ?_) (Ev.some' h.symm)
  rw [center_Legit.l0, if_neg (by omega)]
 | succ m ih =>
  intro i hm h
  have hi : i < p.length := by omega
  have c0 : (0 : Int) ≤ (i : Int) := by omega
  have c1 : (i : Int) < (p.length : Int) := by omega
  have c2 : (i : Int) < (c.length : Int) := by omega
  have c3 : (i : Int) < ((outL p.length (htF p)).length : Int) := by rw [outL_len]; omega
  have c4 : (0 : Int) < ((rd_L3 c (i : Int)).length : Int) := by rw [rdRow_nat, hr i (by omega)]; decide
  have e2 : wrap64 ((i : Int) + 1) = ((i + 1 : Nat) : Int) := by rw [wrap_id (by omega) (by omega)]; rfl
  by_cases hq : vl c i 0 = htF p i
  ·
   refine Ev.step (fun k => ?_) (ih (i + 1) (by omega) (by rw [all27_up, h]; exact decide_eq_true hq))
   rw [center_Legit.l0, if_pos c1, if_pos c0, if_pos c3, if_pos c2, if_pos c4, vl_rd, outL_rd hi, if_pos hq, e2]
  ·
   refine Ev.step (f := fun _ => some false) (fun k => ?_) (Ev.some' (all27_no hi (decide_eq_false hq)).symm)
   rw [center_Legit.l0, if_pos c1, if_pos c0, if_pos c3, if_pos c2, if_pos c4, vl_rd, outL_rd hi, if_neg hq]
theorem legitC_ev : Ev (fun k => center_Legit.f k ids p c) (centLegit ids p c) := by
 unfold center_Legit.f centLegit
 refine Ev.bind centConf_ev ?_
 cases hf : centConf ids p c with
 | false => exact Ev.congr (f := fun _ => some false) (fun k => by rw [if_neg (by simp)]) Ev.some
 | true =>
  obtain ⟨h1, h2, h3, h4, h5⟩ := centConf_rows hf
  obtain ⟨par, hl⟩ := tree_links h1
  rw [Bool.true_and]
  refine Ev.congr (fun k => by rw [if_pos rfl]) (Ev.bind (heights_ev (tree_conn h1).1 hl) ?_)
  have h := legitC_l0 (p := p) (by omega) h3 h5 p.length 0 (by omega) rfl
  exact Ev.congr (fun k => by rw [outL_len]; rfl) h
theorem conf27 (hV : (toG ids p).valid = true) : ∃ vs, selfstabref27_Vars.f = some vs ∧ selfstabref23_Config.f ids p c vs = some (holdsB (toG ids p) c [(p.length : Int)]) := by
 have hs := valid_size hV
 refine ⟨_, rfl, ?_⟩
 unfold selfstabref23_Config.f
 rw [if_pos ⟨by simp, by decide⟩]
 have hm : mostOf (toG ids p).ports.length (Go.Proofs.Ythapikakneikbaa.topOf (toG ids p).ids) ⟨⟨#[104]⟩, 1, 0, 0, 1, 0⟩ = (p.length : Int) := by
  unfold mostOf
  rw [if_neg (by decide), if_neg (by decide), toG_len]
  simp
 congr 1
 refine conf_holds hV (most := [(p.length : Int)]) ?_ ?_
 ·
  show _ = [mostOf _ _ _]
  exact congrArg (fun x => [x]) hm.symm
 ·
  intro x hx
  simp at hx
  subst hx
  refine .inr ⟨.inr rfl, ?_⟩
  show mostOf _ _ (⟨⟨#[104]⟩, 1, 0, 0, 1, 0⟩ : Go.Proofs.Ythapikakneikbaa.Var) ≠ -1
  rw [hm]; omega
theorem exact_l0 {par : Nat → Nat} (hcn : connG ids p = true) (hl : Links p par) (hp : p.length ≤ 24) (hc : c.length = p.length) (hr : ∀ v, v < c.length → (c.getD v []).length = 1) : ∀ m i, m + i = p.length → (List.range i).all (exactB p c) = true →
  Ev (fun k => selfstabref27_Exact.l0 k c 0 (i : Int) ids p) ((List.range p.length).all (exactB p c)) := by
 intro m
 induction m with
 | zero =>
  intro i hm h
  obtain rfl : i = p.length := by omega
  refine Ev.step (f := fun _ => some true) (fun k => ?_) (Ev.some' h.symm)
  rw [selfstabref27_Exact.l0, if_neg (by omega)]
 | succ m ih =>
  intro i hm h
  have hi : i < p.length := by omega
  have c0 : (0 : Int) ≤ (i : Int) := by omega
  have c2 : (i : Int) < (c.length : Int) := by omega
  have c4 : (0 : Int) < ((rd_L3 c (i : Int)).length : Int) := by rw [rdRow_nat, hr i (by omega)]; decide
  have e2 : wrap64 ((i : Int) + 1) = ((i + 1 : Nat) : Int) := by rw [wrap_id (by omega) (by omega)]; rfl
  refine Ev.step (f := fun k => (selfstabref27_Height.f k ids p (i : Int)).bind fun t => if vl c i 0 = t then selfstabref27_Exact.l0 k c 0 ((i + 1 : Nat) : Int) ids p else some false) (fun k => ?_) (Ev.bind (rheight_ev hcn hl hi) ?_)
  ·
   rw [selfstabref27_Exact.l0, if_pos c2, if_pos c0, if_pos (Int.le_refl 0), if_pos c4, vl_rd, e2]
  ·
   by_cases hq : vl c i 0 = htF p i
   ·
    exact Ev.congr (fun k => if_pos hq) (ih (i + 1) (by omega) (by rw [all27_up, h]; exact decide_eq_true hq))
   ·
    exact Ev.congr (f := fun _ => some false) (fun k => if_neg hq) (Ev.some' (all27_no hi (decide_eq_false hq)).symm)
theorem rlegitC_ev : Ev (fun k => selfstabref27_Legit.f k ids p c) (centLegit ids p c) := by
 unfold selfstabref27_Legit.f centLegit centConf
 refine Ev.bind rfitC_ev ?_
 cases hf : treeG ids p with
 | false => exact Ev.congr (f := fun _ => some false) (fun k => by rw [if_neg (by simp)]) (Ev.some' rfl)
 | true =>
  have hV := conn_valid (tree_conn hf).1
  obtain ⟨vs, hvs, hcf⟩ := conf27 (c := c) hV
  refine Ev.congr (fun k => by rw [if_pos rfl, hvs, Option.bind_some, hcf, Option.bind_some]) (f := fun k => if holdsB (toG ids p) c [(p.length : Int)] = true then ((selfstabref27_Exact.f k ids p c 0).bind fun t => some t) else some false) ?_
  cases hh : holdsB (toG ids p) c [(p.length : Int)] with
  | false => exact Ev.congr (f := fun _ => some false) (fun k => if_neg (by simp)) (Ev.some' rfl)
  | true =>
   have hcf2 : centConf ids p c = true := by unfold centConf; rw [hf, hh]; rfl
   obtain ⟨h1, h2, h3, h4, h5⟩ := centConf_rows hcf2
   obtain ⟨par, hl⟩ := tree_links h1
   refine Ev.congr (fun k => if_pos rfl) (Ev.bind (exact_l0 (tree_conn h1).1 hl (by omega) h3 h5 p.length 0 (by omega) rfl) (Ev.some' ?_))
   simp
def eccF (ids : List Int) (p : List (List S60)) (v : Nat) : Int := maxS (distS ids p (v : Int))
def diamF (ids : List Int) (p : List (List S60)) : Nat → Int
 | 0 => 0
 | i + 1 => mx (diamF ids p i) (eccF ids p i)
theorem eccF_pos (h : connG ids p = true) {v : Nat} (hv : v < p.length) : 0 ≤ eccF ids p v := by
 have h1 := conn_from h hv v hv
 have h2 := (fold_ge (distS ids p (v : Int)) (-1)).2 (distTo p v p.length v) (by
  rw [distS_yes (conn_valid h) hv]
  exact List.mem_map.2 ⟨v, List.mem_range.2 hv, rfl⟩)
 unfold eccF maxS
 omega
theorem diamF_pos (h : connG ids p = true) : ∀ i, i ≤ p.length → 0 ≤ diamF ids p i := by
 intro i
 induction i with
 | zero => intro _; exact Int.le_refl 0
 | succ i ih =>
  intro hi
  have := ih (by omega)
  have := eccF_pos h (v := i) (by omega)
  unfold diamF
  rcases mx_cases (diamF ids p i) (eccF ids p i) with ⟨e, _⟩ | ⟨e, _⟩ <;> omega
theorem diam_l0 (h : connG ids p = true) : ∀ m i, m + i = p.length →
  Ev (fun k => graph_Diameter.l0 k (if i = 0 then -1 else diamF ids p i) (p.length : Int) (i : Int) ids p) (diamF ids p p.length) ∧
  Ev (fun k => selfstabref01_Diameter.l0 k (diamF ids p i) (i : Int) ids p) (diamF ids p p.length) := by
 have hV := conn_valid h
 obtain ⟨s1, s2, _⟩ := valid_size hV
 intro m
 induction m with
 | zero =>
  intro i hm
  obtain rfl : i = p.length := by omega
  refine ⟨Ev.step (f := fun _ => some _) (fun k => ?_) Ev.some, Ev.step (f := fun _ => some _) (fun k => ?_) Ev.some⟩
  ·
   rw [graph_Diameter.l0, if_neg (by omega), if_neg (by omega)]
  ·
   rw [selfstabref01_Diameter.l0, if_neg (by omega)]
 | succ m ih =>
  intro i hm
  obtain ⟨g1, g2⟩ := ih (i + 1) (by omega)
  have hi : i < p.length := by omega
  have c1 : (i : Int) < (p.length : Int) := by omega
  have e2 : wrap64 ((i : Int) + 1) = ((i + 1 : Nat) : Int) := by rw [wrap_id (by omega) (by omega)]; rfl
  have he := eccF_pos h hi
  have hd := diamF_pos h i (by omega)
  have hd1 := diamF_pos h (i + 1) (by omega)
  have x1 := ecc_ev (ids := ids) (p := p) (i : Int)
  rw [if_pos h] at x1
  have x2 := recc_ev (ids := ids) (p := p) (i : Int)
  rw [greatS_conn h hi] at x2
  rw [if_neg (by omega)] at g1
  have hm1 : mx (if i = 0 then -1 else diamF ids p i) (eccF ids p i) = diamF ids p (i + 1) := by
   rw [diamF]
   by_cases h0 : i = 0
   ·
    subst h0
    rw [if_pos rfl, diamF]
    unfold mx
    rw [if_pos (by omega)]
    split <;> omega
   ·
    rw [if_neg h0]
  refine ⟨Ev.step (f := fun k => (graph_Eccentricity.f k ids p (i : Int)).bind fun t => if (mx (if i = 0 then -1 else diamF ids p i) t) < 0 then some (mx (if i = 0 then -1 else diamF ids p i) t) else graph_Diameter.l0 k (mx (if i = 0 then -1 else diamF ids p i) t) (p.length : Int) ((i + 1 : Nat) : Int) ids p) (fun k => ?_) (Ev.bind x1 ?_),
   Ev.step (f := fun k => (selfstabref01_Eccentricity.f k ids p (i : Int)).bind fun t => selfstabref01_Diameter.l0 k (mx (diamF ids p i) t) ((i + 1 : Nat) : Int) ids p) (fun k => ?_) (Ev.bind x2 ?_)⟩
  ·
   rw [graph_Diameter.l0, if_pos c1, e2]
  ·
   show Ev (fun k => if (mx (if i = 0 then -1 else diamF ids p i) (eccF ids p i)) < 0 then some (mx (if i = 0 then -1 else diamF ids p i) (eccF ids p i)) else graph_Diameter.l0 k (mx (if i = 0 then -1 else diamF ids p i) (eccF ids p i)) (p.length : Int) ((i + 1 : Nat) : Int) ids p) _
   rw [hm1]
   exact Ev.congr (fun k => if_neg (by omega)) g1
  ·
   rw [selfstabref01_Diameter.l0, if_pos c1, e2]
  ·
   exact g2
theorem claimC_ev : ∃ r, Ev (fun k => center_Claim.f k ids p) r ∧ Ev (fun k => selfstabref27_Claim.f k ids p) r := by
 unfold center_Claim.f selfstabref27_Claim.f
 cases hf : treeG ids p with
 | false =>
  refine ⟨(0, false, false, 0, 0), Ev.bind fitC_ev ?_, Ev.bind rfitC_ev ?_⟩ <;> rw [hf] <;> exact Ev.congr (f := fun _ => some (0, false, false, 0, 0)) (fun k => by rw [if_neg (by simp)]) Ev.some
 | true =>
  have hc := (tree_conn hf).1
  obtain ⟨g1, g2⟩ := diam_l0 hc p.length 0 (by omega)
  refine ⟨(3, false, true, wrap64 ((wrap64 (Int.tdiv (diamF ids p p.length) 2)) + 1), (-1)), Ev.bind fitC_ev ?_, Ev.bind rfitC_ev ?_⟩
  ·
   rw [hf]
   exact Ev.congr (fun k => if_pos rfl) (Ev.bind (f := fun _ t => some (3, false, true, wrap64 ((wrap64 (Int.tdiv t 2)) + 1), (-1))) (Ev.congr (fun k => rfl) g1) Ev.some)
  ·
   rw [hf]
   refine Ev.congr (fun k => if_pos rfl) (Ev.bind (f := fun _ t => some (3, false, true, wrap64 ((wrap64 (Int.tdiv t 2)) + 1), (-1))) (a := diamF ids p p.length) ?_ Ev.some)
   unfold selfstabref01_Diameter.f
   refine Ev.bind (rconn_ev ids p) ?_
   rw [hc]
   exact Ev.congr (fun k => if_pos rfl) g2
def pkTo (p : List (List S60)) (c : List (List Int)) (v i : Nat) : Bool := ((p.getD v []).take i).all fun l => decide (vl c l.f0.toNat 0 ≤ vl c v 0)
theorem pkTo_succ {v i : Nat} (h : i < (p.getD v []).length) : pkTo p c v (i + 1) = (pkTo p c v i && decide (vl c ((p.getD v [])[i]).f0.toNat 0 ≤ vl c v 0)) := by
 unfold pkTo
 rw [List.take_succ_eq_append_getElem h, List.all_append]
 simp
theorem pkTo_end {v : Nat} : pkTo p c v (p.getD v []).length = peakB (toG ids p) c v := by
 unfold pkTo peakB
 rw [List.take_length, toG_row, List.all_map]
 rfl
def pkM (ids : List Int) (p : List (List S60)) (c : List (List Int)) (v i u : Nat) : Bool := if u < v then peakB (toG ids p) c u else if u = v then pkTo p c v i else true
theorem clear_bit {f : Nat → Bool} {n v : Nat} (hn : n ≤ 24) (hv : v < n) : Go.bits .andNot .u32 ((bitsOf f n : Nat) : Int) (shl .u32 1 (v : Int)) = ((bitsOf (fun u => f u && decide (u ≠ v)) n : Nat) : Int) := by
 have h2 := pow_lt32 (v := v) (by omega)
 rw [shl_bit (by omega), u32_andNot_nat _ _ (bitsOf_small (by omega)) h2]
 congr 1
 refine Nat.eq_of_testBit_eq fun u => ?_
 rw [Nat.testBit_and, not_bit h2, testBit_bitsOf, testBit_bitsOf, Nat.testBit_two_pow]
 by_cases hu : u < n
 ·
  have h32 : u < 32 := by omega
  by_cases e : u = v
  ·
   subst e; simp
  ·
   have e' : v ≠ u := fun h => e h.symm
   simp [hu, h32, e, e']
 ·
  simp [hu]
theorem high_l1 (hV : (toG ids p).valid = true) (hc : c.length = p.length) (hr : ∀ v, v < c.length → (c.getD v []).length = 1) {v : Nat} (hv : v < p.length) {r : Int}
  (hnx : Ev (fun k => selfstabref27_Highest.l0 k c 0 ((bitsOf (pkM ids p c (v + 1) 0) p.length : Nat) : Int) ((v + 1 : Nat) : Int) ids p) r) : ∀ m i, m + i = (p.getD v []).length →
  Ev (fun k => selfstabref27_Highest.l1 k c 0 ((bitsOf (pkM ids p c v i) p.length : Nat) : Int) (v : Int) (i : Int) ids p) r := by
 obtain ⟨s1, s2, _⟩ := valid_size hV
 have c0 : (0 : Int) ≤ (v : Int) := by omega
 have c1 : (v : Int) < (p.length : Int) := by omega
 have c2 : (v : Int) < (c.length : Int) := by omega
 have hrl : (p.getD v []).length ≤ 576 := by
  have := row_small hV hv
  rwa [List.getD_eq_getElem?_getD, List.getElem?_eq_getElem hv, Option.getD_some]
 have q1 : (0 : Int) < ((rd_L3 c (v : Int)).length : Int) := by rw [rdRow_nat, hr v (by omega)]; decide
 have q6 : IntKind.u64.wrap (v : Int) = (v : Int) := wrap_u64 (by omega) (by omega)
 have e1 : wrap64 ((v : Int) + 1) = ((v + 1 : Nat) : Int) := by rw [wrap_id (by omega) (by omega)]; rfl
 intro m
 induction m with
 | zero =>
  intro i hm
  obtain rfl : i = (p.getD v []).length := by omega
  have hb : bitsOf (pkM ids p c v (p.getD v []).length) p.length = bitsOf (pkM ids p c (v + 1) 0) p.length := bitsOf_congr fun u _ => by
   unfold pkM
   rw [pkTo_end (ids := ids)]
   by_cases h1 : u < v
   ·
    rw [if_pos h1, if_pos (by omega)]
   ·
    rw [if_neg h1]
    by_cases h2 : u = v
    ·
     subst h2; rw [if_pos rfl, if_pos (by omega)]
    ·
     rw [if_neg h2, if_neg (by omega)]
     split
     ·
      rfl
     ·
      rfl
  rw [hb]
  refine Ev.step (fun k => ?_) hnx
  rw [selfstabref27_Highest.l1, if_pos c0, if_pos c1, rdPorts_nat, if_neg (by omega), e1]
 | succ m ih =>
  intro i hm
  have hil : i < (p.getD v []).length := by omega
  have hlk : rd_T60 (p.getD v []) (i : Int) = (p.getD v [])[i] := rdLink_nat hil
  have hnext := ih (i + 1) (by omega)
  obtain ⟨w, hw, hwl, hwa⟩ := link_at hV hv hil
  have c3 : (i : Int) < ((p.getD v []).length : Int) := Int.ofNat_lt.2 hil
  have c4 : (0 : Int) ≤ (i : Int) := by omega
  have w0 : (0 : Int) ≤ (w : Int) := by omega
  have w1 : (w : Int) < (c.length : Int) := by omega
  have w2 : (0 : Int) < ((rd_L3 c (w : Int)).length : Int) := by rw [rdRow_nat, hr w (by omega)]; decide
  have e2 : wrap64 ((i : Int) + 1) = ((i + 1 : Nat) : Int) := by rw [wrap_id (by omega) (by omega)]; rfl
  have hpk := pkTo_succ (c := c) hil
  rw [hw, Int.toNat_natCast] at hpk
  by_cases hgt : vl c w 0 > vl c v 0
  ·
   rw [decide_eq_false (by omega), Bool.and_false] at hpk
   have hb : bitsOf (fun u => pkM ids p c v i u && decide (u ≠ v)) p.length = bitsOf (pkM ids p c v (i + 1)) p.length := bitsOf_congr fun u _ => by
    unfold pkM
    rw [hpk]
    by_cases h1 : u < v
    ·
     rw [if_pos h1, if_pos h1, decide_eq_true (by omega), Bool.and_true]
    ·
     rw [if_neg h1, if_neg h1]
     by_cases h2 : u = v
     ·
      rw [if_pos h2, if_pos h2, decide_eq_false (fun h => h h2), Bool.and_false]
     ·
      rw [if_neg h2, if_neg h2, decide_eq_true h2, Bool.and_true]
   rw [← hb, ← clear_bit s2 hv] at hnext
   refine Ev.step (fun k => ?_) hnext
   rw [selfstabref27_Highest.l1, if_pos c0, if_pos c1, rdPorts_nat, if_pos c3, if_pos c4, hlk, hw, if_pos w0, if_pos w1, if_pos (Int.le_refl 0), if_pos w2, if_pos c2, if_pos q1, vl_rd, vl_rd, if_pos hgt, q6, if_pos c0, e2]
  ·
   rw [decide_eq_true (by omega), Bool.and_true] at hpk
   have hb : bitsOf (pkM ids p c v i) p.length = bitsOf (pkM ids p c v (i + 1)) p.length := bitsOf_congr fun u _ => by
    unfold pkM
    rw [hpk]
   rw [hb]
   refine Ev.step (fun k => ?_) hnext
   rw [selfstabref27_Highest.l1, if_pos c0, if_pos c1, rdPorts_nat, if_pos c3, if_pos c4, hlk, hw, if_pos w0, if_pos w1, if_pos (Int.le_refl 0), if_pos w2, if_pos c2, if_pos q1, vl_rd, vl_rd, if_neg hgt, e2]
theorem high_l0 (hV : (toG ids p).valid = true) (hc : c.length = p.length) (hr : ∀ v, v < c.length → (c.getD v []).length = 1) : ∀ m v, m + v = p.length →
  Ev (fun k => selfstabref27_Highest.l0 k c 0 ((bitsOf (pkM ids p c v 0) p.length : Nat) : Int) (v : Int) ids p) ((peaksB (toG ids p) c : Nat) : Int) := by
 intro m
 induction m with
 | zero =>
  intro v hm
  obtain rfl : v = p.length := by omega
  have hb : bitsOf (pkM ids p c p.length 0) p.length = peaksB (toG ids p) c := by
   unfold peaksB
   rw [toG_len]
   exact bitsOf_congr fun u hu => by unfold pkM; rw [if_pos hu]
  rw [hb]
  refine Ev.step (f := fun _ => some _) (fun k => ?_) Ev.some
  rw [selfstabref27_Highest.l0, if_neg (by omega)]
 | succ m ih =>
  intro v hm
  refine Ev.step (fun k => ?_) (high_l1 hV hc hr (v := v) (by omega) (ih (v + 1) (by omega)) (p.getD v []).length 0 (by omega))
  rw [selfstabref27_Highest.l0, if_pos (by omega)]
  rfl
theorem high_ev (hV : (toG ids p).valid = true) (hc : c.length = p.length) (hr : ∀ v, v < c.length → (c.getD v []).length = 1) : Ev (fun k => selfstabref27_Highest.f k ids p c 0) ((peaksB (toG ids p) c : Nat) : Int) := by
 obtain ⟨s1, s2, _⟩ := valid_size hV
 unfold selfstabref27_Highest.f selfstabref01_All.f
 have ha : allB (c.length : Int) = bitsOf (pkM ids p c 0 0) p.length := by
  unfold allB
  rw [Int.toNat_natCast, hc, Nat.min_eq_left (by omega)]
  refine Nat.eq_of_testBit_eq fun u => ?_
  rw [Nat.testBit_two_pow_sub_one, testBit_bitsOf]
  have : pkM ids p c 0 0 u = true := by
   unfold pkM
   rw [if_neg (by omega)]
   split
   ·
    simp [pkTo]
   ·
    rfl
  rw [this, Bool.and_true]
 refine Ev.congr (fun k => by rw [Option.bind_some, ha]; rfl) (high_l0 hV hc hr p.length 0 (by omega))
def centS (ids : List Int) (p : List (List S60)) (c : List (List Int)) : Int := if centConf ids p c = true then ((peaksB (toG ids p) c : Nat) : Int) else 0
theorem centers_ev : Ev (fun k => center_Centers.f k ids p c) (centS ids p c) := by
 unfold center_Centers.f centS
 refine Ev.bind centConf_ev ?_
 cases hf : centConf ids p c with
 | false => exact Ev.congr (f := fun _ => some 0) (fun k => by rw [if_neg (by simp)]) Ev.some
 | true =>
  obtain ⟨h1, h2, h3, h4, h5⟩ := centConf_rows hf
  rw [if_pos rfl]
  exact Ev.congr (f := fun _ => some _) (fun k => by rw [if_pos rfl, if_pos ⟨h2, h3, all_rows h5 (by omega)⟩]) Ev.some
theorem rcenters_ev : Ev (fun k => selfstabref27_Centers.f k ids p c) (centS ids p c) := by
 unfold selfstabref27_Centers.f centS centConf
 refine Ev.bind rfitC_ev ?_
 cases hf : treeG ids p with
 | false => exact Ev.congr (f := fun _ => some 0) (fun k => by rw [if_neg (by simp)]) (Ev.some' rfl)
 | true =>
  have hV := conn_valid (tree_conn hf).1
  obtain ⟨vs, hvs, hcf⟩ := conf27 (c := c) hV
  refine Ev.congr (fun k => by rw [if_pos rfl, hvs, Option.bind_some, hcf, Option.bind_some]) (f := fun k => if holdsB (toG ids p) c [(p.length : Int)] = true then ((selfstabref27_Highest.f k ids p c 0).bind fun t => some t) else some 0) ?_
  cases hh : holdsB (toG ids p) c [(p.length : Int)] with
  | false => exact Ev.congr (f := fun _ => some 0) (fun k => if_neg (by simp)) (Ev.some' rfl)
  | true =>
   have hcf2 : centConf ids p c = true := by unfold centConf; rw [hf, hh]; rfl
   obtain ⟨h1, h2, h3, h4, h5⟩ := centConf_rows hcf2
   refine Ev.congr (fun k => if_pos rfl) (Ev.bind (high_ev h2 h3 h5) (Ev.some' ?_))
   simp
end
set_option maxRecDepth 100000 in
theorem known27_at : selfstablaw27_known.f 60 = some true := by kernel_rfl
theorem known27_ev : Ev selfstablaw27_known.f true := Ev.of (fun k => selfstablaw27_known.mono k) known27_at
theorem centerJudges (ids : List Int) (p : List (List S60)) (c : List (List Int)) : ∃ k, selfstablaw27_CenterJudges.f k ids p c = some true := by
 refine Ev.rounds ?_
 unfold selfstablaw27_CenterJudges.f
 have hl : ∃ b, selfstablaw27_large.f ids p c = some b := by
  unfold selfstablaw27_large.f
  split <;> (try split) <;> exact ⟨_, rfl⟩
 obtain ⟨b, hl⟩ := hl
 refine Ev.bindc hl ?_
 cases b with
 | true =>
  simp only [↓reduceIte]
  exact Ev.bind known27_ev Ev.some
 | false =>
  simp only [Bool.false_eq_true, ↓reduceIte]
  refine Ev.bind known27_ev ?_
  simp only [↓reduceIte]
  refine Ev.bind fitC_ev (Ev.bind rfitC_ev ?_)
  simp only [beq_self_eq_true, ↓reduceIte]
  refine Ev.bind legitC_ev (Ev.bind rlegitC_ev ?_)
  simp only [beq_self_eq_true, ↓reduceIte]
  obtain ⟨r, h2, h3⟩ := claimC_ev (ids := ids) (p := p)
  refine Ev.bind h2 (Ev.bind h3 ?_)
  simp only [beq_self_eq_true, Bool.and_self, ↓reduceIte]
  refine Ev.bind centers_ev (Ev.bind rcenters_ev ?_)
  simp only [beq_self_eq_true]
  exact Ev.some
end Go.Proofs.YthapikakneikbaaG
namespace Go.Proofs.Ythapikakneikbaa
open Go.RowKit Go.WideShapes Go.ChangeShapes
def Opens {α : Type} (t : TypeId) (d : Kd α) : Prop := ∀ (H : Type) (enc : TypeId × Value → H) (W : World) (base : Nat) (spare : Nat → Bool) (held : Bool) (fuel : Nat) (cs : List Value) (x : DataW H × List MemPlace),
 DataW.trod enc Try.prog W base spare held fuel t cs = some x → ∃ a : α, d.K W a cs
theorem opens_int {t : TypeId} {k : IntKind} (ht : Try.prog.underlying t = some (.int k)) : Opens t (Kd.int k) := fun H enc W base spare held fuel cs x h => by
 obtain ⟨n, rfl, _⟩ := DataW.trod_int ht h
 exact ⟨n, rfl⟩
theorem opens_slice {α : Type} {t e : TypeId} {d : Kd α} (ht : Try.prog.underlying t = some (.slice e)) (he : Try.prog.cellsOf e = d.sz) (ho : Opens e d) : Opens t d.slice := fun H enc W base spare held fuel cs x h => by
 rcases Go.Deep.open_slice ht h with ⟨rfl, _⟩ | ⟨a, len, cap, m, n, D, Pl, rfl, _, hl, hm, hmm, _, hx⟩
 ·
  exact ⟨[], _, rfl, none, 0, rfl, Nat.le_refl _, Kd.C_nil _ _ _⟩
 ·
  have hlm : len ≤ m := by rw [hmm]; split <;> omega
  rw [he] at hx
  have each : ∀ i, i < len → ∃ (y : α) (c : List Value), d.K W y c ∧ ∀ (j : Nat) u, c[j]? = some u → W.cell? (a.add (i * d.sz + j)) = some u := fun i hi => by
   obtain ⟨cs', h1, h2⟩ := hx i (by omega)
   obtain ⟨y, hy⟩ := ho _ _ _ _ _ _ _ _ _ h2
   obtain ⟨_, hlen, hcell⟩ := World.cells?_some h1
   refine ⟨y, cs', hy, fun j u hu => ?_⟩
   have hj := (List.getElem?_eq_some_iff.1 hu).1
   rw [← Go.Deep.add_add, hcell j (by omega), hu]
  have mk : ∀ k, k ≤ len → ∃ ys : List α, ys.length = k ∧ ∀ (i : Nat) y, ys[i]? = some y → ∃ c, d.K W y c ∧ ∀ (j : Nat) u, c[j]? = some u → W.cell? (a.add (i * d.sz + j)) = some u := fun k => by
   induction k with
   | zero => exact fun _ => ⟨[], rfl, fun i y h => by simp at h⟩
   | succ k ih =>
    intro hk
    obtain ⟨ys, h1, h2⟩ := ih (by omega)
    obtain ⟨y, c, h3, h4⟩ := each k (by omega)
    refine ⟨ys ++ [y], by simp [h1], fun i z hz => ?_⟩
    by_cases hi : i < k
    ·
     rw [List.getElem?_append_left (by omega)] at hz
     exact h2 i z hz
    ·
     rw [List.getElem?_append_right (by omega), h1] at hz
     cases hik : i - k with
     | succ q => rw [hik] at hz; simp at hz
     | zero =>
      rw [hik] at hz
      obtain rfl : y = z := by simpa using hz
      obtain rfl : i = k := by omega
      exact ⟨c, h3, h4⟩
  obtain ⟨ys, h1, h2⟩ := mk len (Nat.le_refl _)
  subst h1
  exact ⟨ys, _, rfl, some a, cap, rfl, hl, by unfold maxLen at hm; omega, fun _ => ⟨a, rfl, h2⟩⟩
theorem opens_fields {H : Type} {enc : TypeId × Value → H} {W : World} {base : Nat} {spare : Nat → Bool} {held : Bool} {fuel : Nat} {cs : List Value} {x : DataW H × List MemPlace} {t : TypeId} {fs : Array Field} (ht : Try.prog.underlying t = some (.struct fs)) (h : DataW.trod enc Try.prog W base spare held fuel t cs = some x) :
  cs.length = Try.prog.cellsOf t ∧ ∀ (i : Nat) (f : Field) (α : Type) (d : Kd α) (T : TypeId) (o n : Nat), fs[i]? = some f → f.type = T → f.offset = o → Try.prog.cellsOf T = n → Opens T d → ∃ a : α, d.K W a ((cs.drop o).take n) := by
 obtain ⟨xs, n, _, _, hl, hxl, hf⟩ := DataW.trod_struct ht h
 refine ⟨hl, fun i f α d T o m hi hT ho2 hm ho => ?_⟩
 subst hT ho2 hm
 have h1 := hf i f hi
 have hil := (Array.getElem?_eq_some_iff.1 hi).1
 rw [List.getElem?_eq_getElem (by rw [hxl]; exact hil)] at h1
 exact ho _ _ _ _ _ _ _ _ _ h1
theorem opens_ints : Opens 22 (Kd.int .i64).slice := opens_slice Try.underlying22 (by kernel_rfl) (opens_int Try.underlying3)
theorem opens_conf : Opens 29 kConf.slice := opens_slice Try.underlying29 (by kernel_rfl) opens_ints
theorem opens_link : Opens 60 kLink := fun H enc W base spare held fuel cs x h => by
 obtain ⟨hl, hf⟩ := opens_fields Try.underlying60 h
 obtain ⟨a, ha⟩ := hf 0 _ _ (Kd.int .i64) _ 0 1 rfl rfl rfl (by kernel_rfl) (opens_int Try.underlying3)
 obtain ⟨b, hb⟩ := hf 1 _ _ (Kd.int .i64) _ 1 1 rfl rfl rfl (by kernel_rfl) (opens_int Try.underlying3)
 have c2 : Try.prog.cellsOf 60 = 2 := by kernel_rfl
 rw [c2] at hl
 match cs, hl with
 | [u, v], _ =>
  obtain rfl : u = .int .i64 a := by have h : [u] = [Value.int .i64 a] := ha; simpa using h
  obtain rfl : v = .int .i64 b := by have h : [v] = [Value.int .i64 b] := hb; simpa using h
  exact ⟨⟨a, b⟩, [.int .i64 a], [.int .i64 b], rfl, rfl, rfl⟩
theorem opens_row : Opens 52 kLink.slice := opens_slice Try.underlying52 (by kernel_rfl) opens_link
theorem opens_ports : Opens 25 kLink.slice.slice := opens_slice Try.underlying25 (by kernel_rfl) opens_row
section
variable {H : Type} {enc : TypeId × Value → H} {W : World} {base b0 : Nat} {spare : Nat → Bool} {held : Bool} {r : Reach} {v : Value} {d : DataW H} {p : List MemPlace}
theorem one_slice {α : Type} {k : Kd α} {u : Value} {a : List α} (h : k.slice.K W a [u]) : k.SL W u a := by
 obtain ⟨v, e, hs⟩ := h
 obtain rfl : u = v := by simpa using e
 exact hs
theorem open_graph (hv : Value.okWide Try.prog W r b0 27 v) (h : DataW.Trod enc Try.prog W base spare held 27 v d p) :
  ∃ (g : Graph) (A0 : Option Addr) (c0 : Nat) (A1 : Option Addr) (c1 : Nat), v = .agg #[.slice A0 g.ids.length c0, .slice A1 g.ports.length c1] ∧ IsGraph W A0 c0 A1 c1 g := by
 obtain ⟨cs, rfl, hsz⟩ := okWide_struct Try.underlying27 hv
 obtain ⟨l⟩ := cs
 obtain ⟨fuel, hf⟩ := h
 obtain ⟨hl, hg⟩ := opens_fields Try.underlying27 hf
 obtain ⟨ids, h0⟩ := hg 0 _ _ (Kd.int .i64).slice _ 0 1 rfl rfl rfl (by kernel_rfl) opens_ints
 obtain ⟨ports, h1⟩ := hg 1 _ _ kLink.slice.slice _ 1 1 rfl rfl rfl (by kernel_rfl) opens_ports
 have c3 : Try.prog.cellsOf 27 = 2 := by kernel_rfl
 rw [c3] at hl
 have hl' : l.length = 2 := hl
 match l, hl' with
 | [u0, u1], _ =>
  obtain ⟨A0, k0, rfl, m0, q0⟩ := one_slice (u := u0) h0
  obtain ⟨A1, k1, rfl, m1, q1⟩ := one_slice (u := u1) h1
  exact ⟨⟨ids, ports⟩, A0, k0, A1, k1, rfl, ⟨q0, m0, q1, m1⟩⟩
theorem open_list {t : TypeId} {α : Type} {k : Kd α} (ho : Opens t k.slice) (ht : ∃ e, Try.prog.underlying t = some (.slice e)) (hv : Value.okWide Try.prog W r b0 t v) (h : DataW.Trod enc Try.prog W base spare held t v d p) : ∃ xs, k.SL W v xs := by
 obtain ⟨e, ht⟩ := ht
 obtain ⟨a, len, cap, rfl⟩ := okWide_slice ht hv
 obtain ⟨fuel, hf⟩ := h
 obtain ⟨xs, hx⟩ := ho _ _ _ _ _ _ _ _ _ hf
 exact ⟨xs, one_slice hx⟩
end
end Go.Proofs.Ythapikakneikbaa
namespace Go.Proofs.YthapikakneikbaaG
open Go.RowKit
structure Bk {α β : Type} (d' : HKd β) (d : PKd α) (f : β → α) : Prop where
 sz : d.sz = d'.sz
 K : ∀ {w : World} {x : β} {c : List Value}, d'.K w x c → d.K w (f x) c
theorem Bk.C {α β : Type} {d : PKd α} {d' : HKd β} {f : β → α} (b : Bk d' d f) {w : World} {A : Option Addr} {xs : List β} (h : Go.Proofs.Ythapikakneikbaa.Kd.C d' w A xs) : Go.Proofs.YthapikakneikbaaW.PrintWords.Kd.C d w A xs.length (xs.map f) := by
 obtain ⟨hm, hc⟩ := h
 refine ⟨by simp, hm, fun h0 => ?_⟩
 obtain ⟨ad, e, hr⟩ := hc h0
 refine ⟨ad, e, fun j y hy => ?_⟩
 rw [List.getElem?_map] at hy
 obtain ⟨x, hx, rfl⟩ := Option.map_eq_some_iff.1 hy
 obtain ⟨c, hK, hcell⟩ := hr j x hx
 rw [← b.sz] at hcell
 exact ⟨c, d.K_len (b.K hK), b.K hK, hcell⟩
theorem Bk.int (k : IntKind) : Bk (Go.Proofs.Ythapikakneikbaa.Kd.int k) (Go.Proofs.YthapikakneikbaaW.PrintWords.Kd.int k) id := ⟨rfl, fun h => h⟩
theorem Bk.slice {α β : Type} {d : PKd α} {d' : HKd β} {f : β → α} (b : Bk d' d f) (e : Nat) : Bk d'.slice (Go.Proofs.YthapikakneikbaaW.PrintWords.Kd.slice e d) (List.map f) := ⟨rfl, fun h => by
 obtain ⟨v, rfl, A, c, rfl, hl, hC⟩ := h
 exact ⟨A, c, by rw [List.length_map], by simpa using hl, by simpa using b.C hC⟩⟩
theorem Bk.link : Bk Go.Proofs.Ythapikakneikbaa.kLink k60 ofL := ⟨rfl, fun h => h⟩
theorem B_ints {w : World} {k : IntKind} {A : Option Addr} {xs : List Int} (h : (Go.Proofs.Ythapikakneikbaa.Kd.int k).C w A xs) : Go.Proofs.YthapikakneikbaaW.PrintWords.Kd.C (Go.Proofs.YthapikakneikbaaW.PrintWords.Kd.int k) w A xs.length xs := by
 have := (Bk.int k).C h
 rwa [List.map_id] at this
theorem B_conf {w : World} {A : Option Addr} {c : List (List Int)} (h : Go.Proofs.Ythapikakneikbaa.kConf.C w A c) : Go.Proofs.YthapikakneikbaaW.PrintWords.Kd.C (Go.Proofs.YthapikakneikbaaW.PrintWords.Kd.slice 3 (Go.Proofs.YthapikakneikbaaW.PrintWords.Kd.int .i64)) w A c.length c := by
 have := ((Bk.int .i64).slice 3).C h
 simpa using this
theorem B_ports {w : World} {A : Option Addr} {p : List (List Go.Proofs.Ythapikakneikbaa.Link)} (h : Go.Proofs.Ythapikakneikbaa.kLink.slice.C w A p) : Go.Proofs.YthapikakneikbaaW.PrintWords.Kd.C (Go.Proofs.YthapikakneikbaaW.PrintWords.Kd.slice 60 k60) w A (p.map (List.map ofL)).length (p.map (List.map ofL)) := by
 have := (Bk.link.slice 60).C h
 rw [List.length_map]
 exact this
end Go.Proofs.YthapikakneikbaaG
