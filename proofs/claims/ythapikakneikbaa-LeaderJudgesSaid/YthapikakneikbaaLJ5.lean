/-
  Lemmas and walks for this claim, part 5: LLegit, GleaderLegit, GleaderClaim, GleaderLeader, GselfstabworldNetTree, Gselfstablaw26known, Gselfstabref26Fit, Gselfstabref23Config, Gselfstabref23Number, Gselfstabref23Pointer, Gselfstabref26Vars, Gselfstabref26Least.
-/
import Derived.Test.YthapikakneikbaaLJ4
/-
  leader.Legit, by hand: what it computes, and its walk.
-/
namespace Go.Proofs.YthapikakneikbaaG
open Go.RowKit Go.Proofs.YthapikakneikbaaW.PrintWords Go.Proofs.YthapikakneikbaaW.PrintMore
open Go.Proofs.YthapikakneikbaaW.PrintLast
open Go.Proofs.Ythapikakneikbaa (vl firstL)
set_option linter.unusedSimpArgs false
def legRow (g : Go.Proofs.Ythapikakneikbaa.Graph) (c : List (List Int)) (x : Int) (dl : List Int) (v : Nat) : Bool := decide (vl c v 0 = x) && decide (vl c v 1 = dl.getD v 0) && decide (vl c v 2 = firstL dl v (g.ports.getD v []) 0)
def legB (g : Go.Proofs.Ythapikakneikbaa.Graph) (c : List (List Int)) (x : Int) (dl : List Int) : Bool := (List.range c.length).all (legRow g c x dl)
theorem legB_no {g : Go.Proofs.Ythapikakneikbaa.Graph} {c : List (List Int)} {x : Int} {dl : List Int} {v : Nat} (hv : v < c.length) (h : legRow g c x dl v = false) : legB g c x dl = false := by
  unfold legB
  rw [List.all_eq_false]
  exact ⟨v, List.mem_range.2 hv, by simp [h]⟩
def legit26 (k : Nat) (l0_0 : List Int) (l0_1 : List (List (S60))) (l1 : List (List Int)) : Option Bool :=
  (leader_Fit.f k l0_0 l0_1).bind fun b1 => if b1 = true then
    ((shape_Greatest.f k l0_0 l0_1).bind fun top => (shape_Holds.f l0_0 l0_1 l1 [top, wrap64 ((l0_1.length : Int) - 1), -1]).bind fun b2 => if b2 = true then
      ((leader_least.f k l0_0 l0_1).bind fun node => (graph_Distances.f k l0_0 l0_1 node).bind fun dl =>
        if 0 ≤ node ∧ node < l0_0.length ∧ (toG l0_0 l0_1).valid = true ∧ dl.length = l0_1.length ∧ l1.length = l0_1.length ∧ (l1.all fun r => decide (2 < r.length)) = true then
          some (legB (toG l0_0 l0_1) l1 (l0_0.getD node.toNat 0) dl)
        else none)
      else some false)
    else some false
theorem legit26_mono (k : Nat) (a : List Int) (b : List (List (S60))) (c : List (List Int)) : LeO (legit26 k a b c) (legit26 (k + 1) a b c) := by
  unfold legit26
  refine LeO.bind (leader_Fit.mono _ _ _) fun b1 => ?_
  split
  · refine LeO.bind (shape_Greatest.mono _ _ _) fun top => LeO.bind (LeO.refl _) fun b2 => ?_
    split
    · exact LeO.bind (leader_least.mono _ _ _) fun node => LeO.bind (graph_Distances.mono _ _ _ _) fun dl => LeO.refl _
    · exact LeO.refl _
  · exact LeO.refl _
theorem three_ints {w : World} {g : Nat} {a b c : Int} (h : w.heap[g]? = some (.cells #[.int .i64 a, .int .i64 b, .int .i64 c] 3 (0, 0))) : Kd.C (Kd.int .i64) w (some ⟨g, 0, none⟩) ([a, b, c] : List Int).length [a, b, c] := by
  have ho : w.ownsRow 0 3 1 (.slice (some ⟨g, 0, none⟩) 3 3) 3 (Go.Proofs.Ythapikakneikbaa.icells [a, b, c]) := ⟨rfl, .inr ⟨g, 3, _, rfl, Nat.zero_le _, h, Nat.le_refl _, by decide, rfl, rfl⟩⟩
  obtain ⟨A, k, e, _, hc⟩ := Go.Proofs.Ythapikakneikbaa.ints_reads (xs := [a, b, c]) ho
  cases e
  exact B_ints hc
set_option maxHeartbeats 8000000 in
set_option maxRecDepth 100000 in
theorem legit26_calls (k : Nat) (A0_0 : Option Addr) (c0_0 : Nat) (l0_0 : List Int) (A0_1 : Option Addr) (c0_1 : Nat) (l0_1 : List (List (S60))) (A1 : Option Addr) (c1 : Nat) (l1 : List (List Int)) (r : Bool) (w : World)
    (hr0_0 : Kd.C (Kd.int .i64) w A0_0 l0_0.length l0_0) (hc0_0 : l0_0.length ≤ c0_0) (hr0_1 : Kd.C (Kd.slice 60 k60) w A0_1 l0_1.length l0_1) (hc0_1 : l0_1.length ≤ c0_1) (hr1 : Kd.C (Kd.slice 3 (Kd.int .i64)) w A1 l1.length l1) (hc1 : l1.length ≤ c1) (h : legit26 k l0_0 l0_1 l1 = some r) :
    Calls Try.prog 51 #[.agg #[.slice A0_0 l0_0.length c0_0, .slice A0_1 l0_1.length c0_1], .slice A1 l1.length c1] w fun e w' => e = .returned (.bool r) ∧ Below w.heap.size w w' := by
  unfold legit26 at h
  obtain ⟨b1, hb1, h⟩ := Option.bind_eq_some_iff.1 h
  have hg := isGraph hr0_0 hc0_0 hr0_1 hc0_1
  have HG := Go.Lib.hid hg
  have HC := Go.Lib.hid (C_conf hr1)
  have HR0 := Go.Lib.hid hr0_0
  have HR1 := Go.Lib.hid hr0_1
  have HR2 := Go.Lib.hid hr1
  have HBq := Go.Lib.hid hb1
  have HH := Go.Lib.hid h
  have e1 : (toG l0_0 l0_1).ports.length = l0_1.length := by simp [toG]
  have E1 := Go.Lib.hid e1
  clear hr0_0 hr0_1 hr1 hb1 h hg e1
  have hbw := (Below.refl w.heap.size w).alloc (Nat.le_refl _) (.cells #[.slice A0_0 l0_0.length c0_0, .slice A0_1 l0_1.length c0_1] 27)
  have HBW := Go.Lib.hid hbw
  have bG : (w.alloc (.cells #[.slice A0_0 l0_0.length c0_0, .slice A0_1 l0_1.length c0_1] 27)).heap[w.heap.size]? = some (.cells #[.slice A0_0 l0_0.length c0_0, .slice A0_1 l0_1.length c0_1] 27 (0, 0)) := Go.Proofs.Ythapikakneikbaa.blk_new rfl
  have BG := Go.Lib.hid bG
  clear hbw bG
  have hu27 := Try.underlying27
  go_enter Try.func51, Try.ntmps51
  go_wp2_with fail
  generalize w.alloc _ = w1 at HBW BG ⊢
  have k0 := Go.Proofs.Ythapikakneikbaa.blk_cell (j := 0) (v := .slice A0_0 l0_0.length c0_0) BG.out rfl
  have k1 := Go.Proofs.Ythapikakneikbaa.blk_cell (j := 1) (v := .slice A0_1 l0_1.length c0_1) BG.out rfl
  have HBD := Go.Lib.hid (show Below w.heap.size w w1.drew from ⟨HBW.out.os, HBW.out.tape, HBW.out.output, HBW.out.size, HBW.out.block⟩)
  have BGD := Go.Lib.hid (show w1.drew.heap[w.heap.size]? = some (.cells #[.slice A0_0 l0_0.length c0_0, .slice A0_1 l0_1.length c0_1] 27 (0, 0)) from BG.out)
  cases b1 with
  | false =>
    have hq := HH.out
    rw [if_neg (by simp)] at hq
    injection hq with hq
    have HQ := Go.Lib.hid hq
    clear hq
    refine start_ (n := 16) (S := fun w' => w'.cell? ⟨w.heap.size, 0, none⟩ = some (.slice A0_0 l0_0.length c0_0) ∧ w'.cell? ⟨w.heap.size, 1, none⟩ = some (.slice A0_1 l0_1.length c0_1)) (ds := []) #[false, false, false, false, false, false, false, false, false, false, false, false, false, false, false, false] (by kernel_rfl) rfl rfl ⟨k0, k1⟩ (fun hHeld => ?_)
    refine take_ (i := 0) (N := some 10) (v := ?_) (a' := ?_) #[true, false, false, false, false, false, false, false, false, false, false, false, false, false, false, false] rfl rfl (by kernel_rfl) (fun _ _ _ h => h) (Or.inl ⟨by rfl, ?_⟩) hHeld ?_ ?_
    rotate_left
    · rintro w' ⟨s0, s1⟩
      go_simp
      with_reducible rfl
    rotate_left
    · simp only [Act.put, List.setIfInBounds_toArray, List.set_cons_zero, List.set_cons_succ, i64_w, i32_w]
      rfl
    refine one_ (i := 1) (N := some 11) #[true, true, false, false, false, false, false, false, false, false, false, false, false, false, false, false] rfl rfl (by kernel_rfl) (by decide) (fun K hK => ?_)
    refine goes_ Try.func49 (by kernel_rfl) rfl #[.agg #[.slice A0_0 l0_0.length c0_0, .slice A0_1 l0_1.length c0_1]] (by rfl) rfl rfl (by simp only [List.map_toArray, List.map_cons, List.map_nil]; rfl) ?_
    with_reducible refine (leader_Fit.calls k A0_0 c0_0 l0_0 A0_1 c0_1 l0_1 false _ (Kd.C_below HR0.out HBD.out) hc0_0 (Kd.C_below HR1.out HBD.out) hc0_1 HBq.out).mono ?_
    rintro e w2 ⟨rfl, hb2⟩
    refine ⟨_, rfl, ?_⟩
    have HB2 := Go.Lib.hid (HBD.out.trans (hb2.mono HBD.out.size))
    have BG2 := Go.Lib.hid (Go.Proofs.Ythapikakneikbaa.blk_below BGD.out hb2)
    clear hb2
    refine hK.out _ _ ⟨(Go.Proofs.Ythapikakneikbaa.blk_cell (j := 0) (v := .slice A0_0 l0_0.length c0_0) BG2.out rfl), (Go.Proofs.Ythapikakneikbaa.blk_cell (j := 1) (v := .slice A0_1 l0_1.length c0_1) BG2.out rfl)⟩ (fun hHeld => ?_)
    clear hK K
    refine norm_ (a' := ?_) ?_ ?_
    rotate_left
    · show Act.put _ (some 11) _ = _
      simp only [Act.put, List.setIfInBounds_toArray, List.set_cons_zero, List.set_cons_succ, i64_w, i32_w]
      rfl
    refine pure_ (i := 2) (N := some 12) (v := ?_) (a' := ?_) #[true, true, true, false, false, false, false, false, false, false, false, false, false, false, false, false] rfl rfl (by kernel_rfl) (fun _ _ _ h => h) (Or.inl ⟨by rfl, ?_⟩) ?_ ?_
    rotate_left
    · intro w'
      go_simp
      with_reducible rfl
    rotate_left
    · simp only [Act.put, List.setIfInBounds_toArray, List.set_cons_zero, List.set_cons_succ, i64_w, i32_w]
      rfl
    refine pure_ (i := 3) (N := some 13) (v := ?_) (a' := ?_) #[true, true, true, true, false, false, false, false, false, false, false, false, false, false, false, false] rfl rfl (by kernel_rfl) (fun _ _ _ h => h) (Or.inl ⟨by rfl, ?_⟩) ?_ ?_
    rotate_left
    · intro w'
      go_simp
      with_reducible rfl
    rotate_left
    · simp only [Act.put, List.setIfInBounds_toArray, List.set_cons_zero, List.set_cons_succ, i64_w, i32_w]
      rfl
    refine pure_ (i := 4) (N := some 14) (v := undef) (a' := ?_) #[true, true, true, true, true, false, false, false, false, false, false, false, false, false, false, false] rfl rfl (by kernel_rfl) (fun _ _ _ h => h) (Or.inr ⟨by rfl, rfl⟩) ?_ ?_
    rotate_left
    · simp only [Act.put, List.setIfInBounds_toArray, List.set_cons_zero, List.set_cons_succ, i64_w, i32_w]
      rfl
    refine pure_ (i := 5) (N := some 15) (v := undef) (a' := ?_) #[true, true, true, true, true, true, false, false, false, false, false, false, false, false, false, false] rfl rfl (by kernel_rfl) (fun _ _ _ h => h) (Or.inr ⟨by rfl, rfl⟩) ?_ ?_
    rotate_left
    · simp only [Act.put, List.setIfInBounds_toArray, List.set_cons_zero, List.set_cons_succ, i64_w, i32_w]
      rfl
    refine pure_ (i := 6) (N := some 16) (v := undef) (a' := ?_) #[true, true, true, true, true, true, true, false, false, false, false, false, false, false, false, false] rfl rfl (by kernel_rfl) (fun _ _ _ h => h) (Or.inr ⟨by rfl, rfl⟩) ?_ ?_
    rotate_left
    · simp only [Act.put, List.setIfInBounds_toArray, List.set_cons_zero, List.set_cons_succ, i64_w, i32_w]
      rfl
    refine pure_ (i := 7) (N := some 17) (v := undef) (a' := ?_) #[true, true, true, true, true, true, true, true, false, false, false, false, false, false, false, false] rfl rfl (by kernel_rfl) (fun _ _ _ h => h) (Or.inr ⟨by rfl, rfl⟩) ?_ ?_
    rotate_left
    · simp only [Act.put, List.setIfInBounds_toArray, List.set_cons_zero, List.set_cons_succ, i64_w, i32_w]
      rfl
    refine pure_ (i := 8) (N := some 18) (v := undef) (a' := ?_) #[true, true, true, true, true, true, true, true, true, false, false, false, false, false, false, false] rfl rfl (by kernel_rfl) (fun _ _ _ h => h) (Or.inr ⟨by rfl, rfl⟩) ?_ ?_
    rotate_left
    · simp only [Act.put, List.setIfInBounds_toArray, List.set_cons_zero, List.set_cons_succ, i64_w, i32_w]
      rfl
    refine pure_ (i := 9) (N := some 19) (v := undef) (a' := ?_) #[true, true, true, true, true, true, true, true, true, true, false, false, false, false, false, false] rfl rfl (by kernel_rfl) (fun _ _ _ h => h) (Or.inr ⟨by rfl, rfl⟩) ?_ ?_
    rotate_left
    · simp only [Act.put, List.setIfInBounds_toArray, List.set_cons_zero, List.set_cons_succ, i64_w, i32_w]
      rfl
    refine pure_ (i := 10) (N := some 20) (v := undef) (a' := ?_) #[true, true, true, true, true, true, true, true, true, true, true, false, false, false, false, false] rfl rfl (by kernel_rfl) (fun _ _ _ h => h) (Or.inr ⟨by rfl, rfl⟩) ?_ ?_
    rotate_left
    · simp only [Act.put, List.setIfInBounds_toArray, List.set_cons_zero, List.set_cons_succ, i64_w, i32_w]
      rfl
    refine pure_ (i := 11) (N := some 21) (v := undef) (a' := ?_) #[true, true, true, true, true, true, true, true, true, true, true, true, false, false, false, false] rfl rfl (by kernel_rfl) (fun _ _ _ h => h) (Or.inr ⟨by rfl, rfl⟩) ?_ ?_
    rotate_left
    · simp only [Act.put, List.setIfInBounds_toArray, List.set_cons_zero, List.set_cons_succ, i64_w, i32_w]
      rfl
    refine pure_ (i := 12) (N := some 22) (v := undef) (a' := ?_) #[true, true, true, true, true, true, true, true, true, true, true, true, true, false, false, false] rfl rfl (by kernel_rfl) (fun _ _ _ h => h) (Or.inr ⟨by rfl, rfl⟩) ?_ ?_
    rotate_left
    · simp only [Act.put, List.setIfInBounds_toArray, List.set_cons_zero, List.set_cons_succ, i64_w, i32_w]
      rfl
    refine pure_ (i := 13) (N := some 23) (v := undef) (a' := ?_) #[true, true, true, true, true, true, true, true, true, true, true, true, true, true, false, false] rfl rfl (by kernel_rfl) (fun _ _ _ h => h) (Or.inr ⟨by rfl, rfl⟩) ?_ ?_
    rotate_left
    · simp only [Act.put, List.setIfInBounds_toArray, List.set_cons_zero, List.set_cons_succ, i64_w, i32_w]
      rfl
    refine pure_ (i := 14) (N := some 24) (v := undef) (a' := ?_) #[true, true, true, true, true, true, true, true, true, true, true, true, true, true, true, false] rfl rfl (by kernel_rfl) (fun _ _ _ h => h) (Or.inr ⟨by rfl, rfl⟩) ?_ ?_
    rotate_left
    · simp only [Act.put, List.setIfInBounds_toArray, List.set_cons_zero, List.set_cons_succ, i64_w, i32_w]
      rfl
    refine pure_ (i := 15) (N := some 25) (v := ?_) (a' := ?_) #[true, true, true, true, true, true, true, true, true, true, true, true, true, true, true, true] rfl rfl (by kernel_rfl) (fun _ _ _ h => h) (Or.inl ⟨by rfl, ?_⟩) ?_ ?_
    rotate_left
    · intro w'
      go_simp
      with_reducible rfl
    rotate_left
    · simp only [Act.put, List.setIfInBounds_toArray, List.set_cons_zero, List.set_cons_succ, i64_w, i32_w]
      rfl
    refine done_ (by kernel_rfl) ?_
    go_wp2_with fail
    go_ret
    exact ⟨by rw [← HQ.out]; rfl, HB2.out⟩
  | true =>
    have hq := HH.out
    rw [if_pos rfl] at hq
    obtain ⟨top, htop, hq⟩ := Option.bind_eq_some_iff.1 hq
    obtain ⟨b2, hb2, hq⟩ := Option.bind_eq_some_iff.1 hq
    have HTOP := Go.Lib.hid htop
    have HHO := Go.Lib.hid hb2
    have HQ := Go.Lib.hid hq
    clear hq htop hb2 HH h
    refine start_ (n := 16) (S := fun w' => w'.cell? ⟨w.heap.size, 0, none⟩ = some (.slice A0_0 l0_0.length c0_0) ∧ w'.cell? ⟨w.heap.size, 1, none⟩ = some (.slice A0_1 l0_1.length c0_1)) (ds := []) #[false, false, false, false, false, false, false, false, false, false, false, false, false, false, false, false] (by kernel_rfl) rfl rfl ⟨k0, k1⟩ (fun hHeld => ?_)
    refine take_ (i := 0) (N := some 10) (v := ?_) (a' := ?_) #[true, false, false, false, false, false, false, false, false, false, false, false, false, false, false, false] rfl rfl (by kernel_rfl) (fun _ _ _ h => h) (Or.inl ⟨by rfl, ?_⟩) hHeld ?_ ?_
    rotate_left
    · rintro w' ⟨s0, s1⟩
      go_simp
      with_reducible rfl
    rotate_left
    · simp only [Act.put, List.setIfInBounds_toArray, List.set_cons_zero, List.set_cons_succ, i64_w, i32_w]
      rfl
    refine one_ (i := 1) (N := some 11) #[true, true, false, false, false, false, false, false, false, false, false, false, false, false, false, false] rfl rfl (by kernel_rfl) (by decide) (fun K hK => ?_)
    refine goes_ Try.func49 (by kernel_rfl) rfl #[.agg #[.slice A0_0 l0_0.length c0_0, .slice A0_1 l0_1.length c0_1]] (by rfl) rfl rfl (by simp only [List.map_toArray, List.map_cons, List.map_nil]; rfl) ?_
    with_reducible refine (leader_Fit.calls k A0_0 c0_0 l0_0 A0_1 c0_1 l0_1 true _ (Kd.C_below HR0.out HBD.out) hc0_0 (Kd.C_below HR1.out HBD.out) hc0_1 HBq.out).mono ?_
    rintro e w2 ⟨rfl, hb2⟩
    refine ⟨_, rfl, ?_⟩
    have HB2 := Go.Lib.hid (HBD.out.trans (hb2.mono HBD.out.size))
    have BG2 := Go.Lib.hid (Go.Proofs.Ythapikakneikbaa.blk_below BGD.out hb2)
    clear hb2
    refine hK.out _ _ ⟨(Go.Proofs.Ythapikakneikbaa.blk_cell (j := 0) (v := .slice A0_0 l0_0.length c0_0) BG2.out rfl), (Go.Proofs.Ythapikakneikbaa.blk_cell (j := 1) (v := .slice A0_1 l0_1.length c0_1) BG2.out rfl)⟩ (fun hHeld => ?_)
    clear hK K
    refine norm_ (a' := ?_) ?_ ?_
    rotate_left
    · show Act.put _ (some 11) _ = _
      simp only [Act.put, List.setIfInBounds_toArray, List.set_cons_zero, List.set_cons_succ, i64_w, i32_w]
      rfl
    refine pure_ (i := 2) (N := some 12) (v := ?_) (a' := ?_) #[true, true, true, false, false, false, false, false, false, false, false, false, false, false, false, false] rfl rfl (by kernel_rfl) (fun _ _ _ h => h) (Or.inl ⟨by rfl, ?_⟩) ?_ ?_
    rotate_left
    · intro w'
      go_simp
      with_reducible rfl
    rotate_left
    · simp only [Act.put, List.setIfInBounds_toArray, List.set_cons_zero, List.set_cons_succ, i64_w, i32_w]
      rfl
    refine pure_ (i := 3) (N := some 13) (v := ?_) (a' := ?_) #[true, true, true, true, false, false, false, false, false, false, false, false, false, false, false, false] rfl rfl (by kernel_rfl) (fun _ _ _ h => h) (Or.inl ⟨by rfl, ?_⟩) ?_ ?_
    rotate_left
    · intro w'
      go_simp
      with_reducible rfl
    rotate_left
    · simp only [Act.put, List.setIfInBounds_toArray, List.set_cons_zero, List.set_cons_succ, i64_w, i32_w]
      rfl
    refine pure_ (i := 5) (N := some 15) (v := ?_) (a' := ?_) #[true, true, true, true, false, true, false, false, false, false, false, false, false, false, false, false] rfl rfl (by kernel_rfl) (fun _ _ _ h => h) (Or.inl ⟨by rfl, ?_⟩) ?_ ?_
    rotate_left
    · intro w'
      go_simp
      with_reducible rfl
    rotate_left
    · simp only [Act.put, List.setIfInBounds_toArray, List.set_cons_zero, List.set_cons_succ, i64_w, i32_w]
      rfl
    refine pure_ (i := 8) (N := some 18) (v := ?_) (a' := ?_) #[true, true, true, true, false, true, false, false, true, false, false, false, false, false, false, false] rfl rfl (by kernel_rfl) (fun _ _ _ h => h) (Or.inl ⟨by rfl, ?_⟩) ?_ ?_
    rotate_left
    · intro w'
      go_simp
      with_reducible rfl
    rotate_left
    · simp only [Act.put, List.setIfInBounds_toArray, List.set_cons_zero, List.set_cons_succ, i64_w, i32_w]
      rfl
    refine take_ (i := 4) (N := some 14) (v := ?_) (a' := ?_) #[true, true, true, true, true, true, false, false, true, false, false, false, false, false, false, false] rfl rfl (by kernel_rfl) (fun _ _ _ h => h) (Or.inl ⟨by rfl, ?_⟩) hHeld ?_ ?_
    rotate_left
    · rintro w' ⟨s0, s1⟩
      go_simp
      with_reducible rfl
    rotate_left
    · simp only [Act.put, List.setIfInBounds_toArray, List.set_cons_zero, List.set_cons_succ, i64_w, i32_w]
      rfl
    refine take_ (i := 6) (N := some 16) (v := ?_) (a' := ?_) #[true, true, true, true, true, true, true, false, true, false, false, false, false, false, false, false] rfl rfl (by kernel_rfl) (fun _ _ _ h => h) (Or.inl ⟨by rfl, ?_⟩) hHeld ?_ ?_
    rotate_left
    · rintro w' ⟨s0, s1⟩
      go_simp
      with_reducible rfl
    rotate_left
    · simp only [Act.put, List.setIfInBounds_toArray, List.set_cons_zero, List.set_cons_succ, i64_w, i32_w]
      rfl
    refine take_ (i := 9) (N := some 19) (v := ?_) (a' := ?_) #[true, true, true, true, true, true, true, false, true, true, false, false, false, false, false, false] rfl rfl (by kernel_rfl) (fun _ _ _ h => h) (Or.inl ⟨by rfl, ?_⟩) hHeld ?_ ?_
    rotate_left
    · rintro w' ⟨s0, s1⟩
      go_simp
      with_reducible rfl
    rotate_left
    · simp only [Act.put, List.setIfInBounds_toArray, List.set_cons_zero, List.set_cons_succ, i64_w, i32_w]
      rfl
    refine pure_ (i := 10) (N := some 20) (v := ?_) (a' := ?_) #[true, true, true, true, true, true, true, false, true, true, true, false, false, false, false, false] rfl rfl (by kernel_rfl) (fun _ _ _ h => h) (Or.inl ⟨by rfl, ?_⟩) ?_ ?_
    rotate_left
    · intro w'
      go_simp
      with_reducible rfl
    rotate_left
    · simp only [Act.put, List.setIfInBounds_toArray, List.set_cons_zero, List.set_cons_succ, i64_w, i32_w]
      rfl
    refine pure_ (i := 11) (N := some 21) (v := ?_) (a' := ?_) #[true, true, true, true, true, true, true, false, true, true, true, true, false, false, false, false] rfl rfl (by kernel_rfl) (fun _ _ _ h => h) (Or.inl ⟨by rfl, ?_⟩) ?_ ?_
    rotate_left
    · intro w'
      go_simp
      with_reducible rfl
    rotate_left
    · simp only [Act.put, List.setIfInBounds_toArray, List.set_cons_zero, List.set_cons_succ, i64_w, i32_w]
      rfl
    refine one_ (i := 7) (N := some 17) #[true, true, true, true, true, true, true, true, true, true, true, true, false, false, false, false] rfl rfl (by kernel_rfl) (by decide) (fun K hK => ?_)
    refine goes_ Try.func98 (by kernel_rfl) rfl #[.agg #[.slice A0_0 l0_0.length c0_0, .slice A0_1 l0_1.length c0_1]] (by rfl) rfl rfl (by simp only [List.map_toArray, List.map_cons, List.map_nil]; rfl) ?_
    with_reducible refine (shape_Greatest.calls k A0_0 c0_0 l0_0 A0_1 c0_1 l0_1 top _ (Kd.C_below HR0.out HB2.out) hc0_0 (Kd.C_below HR1.out HB2.out) hc0_1 HTOP.out).mono ?_
    rintro e w3 ⟨rfl, hb3⟩
    refine ⟨_, rfl, ?_⟩
    have HB3 := Go.Lib.hid (HB2.out.trans (hb3.mono HB2.out.size))
    have BG3 := Go.Lib.hid (Go.Proofs.Ythapikakneikbaa.blk_below BG2.out hb3)
    clear hb3
    refine hK.out _ _ ⟨(Go.Proofs.Ythapikakneikbaa.blk_cell (j := 0) (v := .slice A0_0 l0_0.length c0_0) BG3.out rfl), (Go.Proofs.Ythapikakneikbaa.blk_cell (j := 1) (v := .slice A0_1 l0_1.length c0_1) BG3.out rfl)⟩ (fun hHeld => ?_)
    clear hK K
    refine norm_ (a' := ?_) ?_ ?_
    rotate_left
    · show Act.put _ (some 17) _ = _
      simp only [Act.put, List.setIfInBounds_toArray, List.set_cons_zero, List.set_cons_succ, i64_w, i32_w]
      rfl
    refine one_ (i := 12) (N := some 22) #[true, true, true, true, true, true, true, true, true, true, true, true, true, false, false, false] rfl rfl (by kernel_rfl) (by decide) (fun K hK => ?_)
    refine value_ (w1 := ?_) (v := ?_) (by rfl) rfl ?_ ?_
    rotate_left 2
    · go_simp
      constructor
      · rfl
      · rfl
    have HB4 := Go.Lib.hid (HB3.out.alloc HB3.out.size (.cells #[.int .i64 top, .int .i64 (wrap64 ((l0_1.length : Int) - 1)), .int .i64 (-1)] 3))
    have BG4 := Go.Lib.hid (Go.Proofs.Ythapikakneikbaa.blk_alloc BG3.out (.cells #[.int .i64 top, .int .i64 (wrap64 ((l0_1.length : Int) - 1)), .int .i64 (-1)] 3))
    refine hK.out _ _ ⟨(Go.Proofs.Ythapikakneikbaa.blk_cell (j := 0) (v := .slice A0_0 l0_0.length c0_0) BG4.out rfl), (Go.Proofs.Ythapikakneikbaa.blk_cell (j := 1) (v := .slice A0_1 l0_1.length c0_1) BG4.out rfl)⟩ (fun hHeld => ?_)
    clear hK K
    refine norm_ (a' := ?_) ?_ ?_
    rotate_left
    · show Act.put _ (some 22) _ = _
      simp only [Act.put, List.setIfInBounds_toArray, List.set_cons_zero, List.set_cons_succ, i64_w, i32_w]
      rfl
    refine one_ (i := 13) (N := some 23) #[true, true, true, true, true, true, true, true, true, true, true, true, true, true, false, false] rfl rfl (by kernel_rfl) (by decide) (fun K hK => ?_)
    refine goes_ Try.func73 (by kernel_rfl) rfl #[.agg #[.slice A0_0 l0_0.length c0_0, .slice A0_1 l0_1.length c0_1], .slice A1 l1.length c1, .slice (some ⟨w3.heap.size, 0, none⟩) 3 3] (by rfl) rfl rfl (by simp only [List.map_toArray, List.map_cons, List.map_nil]; rfl) ?_
    with_reducible refine ((show Calls Try.prog 73 #[.agg #[.slice A0_0 l0_0.length c0_0, .slice A0_1 l0_1.length c0_1], .slice A1 l1.length c1, .slice (some ⟨w3.heap.size, 0, none⟩) 3 3] _ _ from shape_Holds.calls A0_0 c0_0 l0_0 A0_1 c0_1 l0_1 A1 c1 l1 (some ⟨w3.heap.size, 0, none⟩) 3 [top, wrap64 ((l0_1.length : Int) - 1), -1] b2 _ (Kd.C_below HR0.out HB4.out) hc0_0 (Kd.C_below HR1.out HB4.out) hc0_1 (Kd.C_below HR2.out HB4.out) hc1 (three_ints (Go.Proofs.Ythapikakneikbaa.blk_new rfl)) (Nat.le_refl _) HHO.out)).mono ?_
    rintro e w5 ⟨rfl, hb5⟩
    refine ⟨_, rfl, ?_⟩
    have HB5 := Go.Lib.hid (HB4.out.trans (hb5.mono HB4.out.size))
    have BG5 := Go.Lib.hid (Go.Proofs.Ythapikakneikbaa.blk_below BG4.out hb5)
    clear hb5
    refine hK.out _ _ ⟨(Go.Proofs.Ythapikakneikbaa.blk_cell (j := 0) (v := .slice A0_0 l0_0.length c0_0) BG5.out rfl), (Go.Proofs.Ythapikakneikbaa.blk_cell (j := 1) (v := .slice A0_1 l0_1.length c0_1) BG5.out rfl)⟩ (fun hHeld => ?_)
    clear hK K
    refine norm_ (a' := ?_) ?_ ?_
    rotate_left
    · show Act.put _ (some 23) _ = _
      simp only [Act.put, List.setIfInBounds_toArray, List.set_cons_zero, List.set_cons_succ, i64_w, i32_w]
      rfl
    refine pure_ (i := 14) (N := some 24) (v := ?_) (a' := ?_) #[true, true, true, true, true, true, true, true, true, true, true, true, true, true, true, false] rfl rfl (by kernel_rfl) (fun _ _ _ h => h) (Or.inl ⟨by rfl, ?_⟩) ?_ ?_
    rotate_left
    · intro w'
      go_simp
      with_reducible rfl
    rotate_left
    · simp only [Act.put, List.setIfInBounds_toArray, List.set_cons_zero, List.set_cons_succ, i64_w, i32_w]
      rfl
    refine pure_ (i := 15) (N := some 25) (v := ?_) (a' := ?_) #[true, true, true, true, true, true, true, true, true, true, true, true, true, true, true, true] rfl rfl (by kernel_rfl) (fun _ _ _ h => h) (Or.inl ⟨by rfl, ?_⟩) ?_ ?_
    rotate_left
    · intro w'
      go_simp
      with_reducible rfl
    rotate_left
    · simp only [Act.put, List.setIfInBounds_toArray, List.set_cons_zero, List.set_cons_succ, i64_w, i32_w]
      rfl
    refine done_ (by kernel_rfl) ?_
    cases b2 with
    | false =>
      have hq := HQ.out
      rw [if_neg (by simp)] at hq
      injection hq with hq
      have HQ2 := Go.Lib.hid hq
      clear hq HQ
      go_wp2_with fail
      go_ret
      exact ⟨by rw [← HQ2.out]; rfl, HB5.out⟩
    | true =>
      have hq := HQ.out
      rw [if_pos rfl] at hq
      obtain ⟨node, hnode, hq⟩ := Option.bind_eq_some_iff.1 hq
      obtain ⟨dl, hdl, hq⟩ := Option.bind_eq_some_iff.1 hq
      by_cases hcd : 0 ≤ node ∧ node < l0_0.length ∧ (toG l0_0 l0_1).valid = true ∧ dl.length = l0_1.length ∧ l1.length = l0_1.length ∧ (l1.all fun r => decide (2 < r.length)) = true
      · rw [if_pos hcd] at hq
        injection hq with hq
        obtain ⟨nd, rfl⟩ := Int.eq_ofNat_of_zero_le hcd.1
        have hndl : nd < l0_0.length := by have := hcd.2.1; omega
        rw [Int.toNat_natCast] at hq
        have HQ2 := Go.Lib.hid hq
        have HND := Go.Lib.hid hnode
        have HDL := Go.Lib.hid hdl
        have HCD := Go.Lib.hid hcd
        clear hq HQ hnode hdl hcd
        have k0 := Go.Proofs.Ythapikakneikbaa.blk_cell (j := 0) (v := .slice A0_0 l0_0.length c0_0) BG5.out rfl
        have k1 := Go.Proofs.Ythapikakneikbaa.blk_cell (j := 1) (v := .slice A0_1 l0_1.length c0_1) BG5.out rfl
        clear hHeld
        go_wp2_with fail
        refine (leader_least.calls k A0_0 c0_0 l0_0 A0_1 c0_1 l0_1 (nd : Int) _ (Kd.C_below HR0.out HB5.out) hc0_0 (Kd.C_below HR1.out HB5.out) hc0_1 HND.out).mono ?_
        rintro e w6 ⟨rfl, hb6⟩
        have HB6 := Go.Lib.hid (HB5.out.trans (hb6.mono HB5.out.size))
        have BG6 := Go.Lib.hid (Go.Proofs.Ythapikakneikbaa.blk_below BG5.out hb6)
        clear hb6 k0 k1
        have k0 := Go.Proofs.Ythapikakneikbaa.blk_cell (j := 0) (v := .slice A0_0 l0_0.length c0_0) BG6.out rfl
        have k1 := Go.Proofs.Ythapikakneikbaa.blk_cell (j := 1) (v := .slice A0_1 l0_1.length c0_1) BG6.out rfl
        go_wp2_with fail
        refine (graph_Distances.calls k A0_0 c0_0 l0_0 A0_1 c0_1 l0_1 (nd : Int) dl _ (Kd.C_below HR0.out HB6.out) hc0_0 (Kd.C_below HR1.out HB6.out) hc0_1 HDL.out).mono ?_
        rintro e w7 ⟨v0, rfl, hR, hb7⟩
        have HB7 := Go.Lib.hid (HB6.out.trans (hb7.mono HB6.out.size))
        have BG7 := Go.Lib.hid (Go.Proofs.Ythapikakneikbaa.blk_below BG6.out hb7)
        obtain ⟨AD, cD, eD⟩ := Kd.R_slice hR
        subst eD
        have HDC := Go.Lib.hid (Kd.R_reads' hR).2.2
        clear hb7 k0 k1 hR
        go_wp2_with fail
        have hb8 := HB7.out.alloc HB7.out.size (.cells #[.slice AD dl.length cD] 22)
        have HB8 := Go.Lib.hid hb8
        have BG8 := Go.Lib.hid (Go.Proofs.Ythapikakneikbaa.blk_alloc BG7.out (.cells #[.slice AD dl.length cD] 22))
        have BD8 := Go.Lib.hid (Go.Proofs.Ythapikakneikbaa.blk_new (w := w7) (o := .cells #[.slice AD dl.length cD] 22) rfl)
        have HD8 := Go.Lib.hid (Go.Proofs.Ythapikakneikbaa.Kd.C_below (C_ints HDC.out) ((Below.refl w7.heap.size w7).alloc (Nat.le_refl _) (.cells #[.slice AD dl.length cD] 22)))
        have HVL := Go.Lib.hid HCD.out.2.2.1
        have HDLn := Go.Lib.hid HCD.out.2.2.2.1
        have HCLn := Go.Lib.hid HCD.out.2.2.2.2.1
        have HCAl := Go.Lib.hid HCD.out.2.2.2.2.2
        have HTO := Go.Lib.hid (show ∀ v (hv : v < (toG l0_0 l0_1).ports.length), ∀ l ∈ (toG l0_0 l0_1).ports[v], 0 ≤ l.to_ ∧ l.to_ < (toG l0_0 l0_1).ports.length from fun v hv l hl => by
          have h4 := ((Go.Proofs.Ythapikakneikbaa.valid_iff _).1 HVL.out).2.2.2.1 ⟨v, l.to_, l.wt⟩ (by
            unfold Go.Proofs.Ythapikakneikbaa.Graph.edges
            rw [Go.Proofs.Ythapikakneikbaa.mem_edgesFrom]
            exact ⟨v, (toG l0_0 l0_1).ports[v], by simp [hv], by simp, hl⟩)
          simp only [Go.Proofs.Ythapikakneikbaa.Edge.ok, decide_eq_true_eq] at h4
          exact ⟨h4.1, h4.2.1⟩)
        obtain ⟨adi, hAi, hidc⟩ := Go.Proofs.Ythapikakneikbaa.Kd.at_int HG.out.ids nd hndl
        cases hAi
        have HIDC := Go.Lib.hid (show w.cell? (adi.add nd) = some (.int .i64 l0_0[nd]) from hidc)
        have hpm := Go.Proofs.Ythapikakneikbaa.Kd.C_max HC.out
        clear hb8 hidc HCD
        generalize w7.heap.size = D at BD8 ⊢
        generalize w7.alloc _ = w8 at HB8 BG8 BD8 HD8 ⊢
        go_loopw [33] (fun i wr => ∃ v : Nat, v ≤ l1.length ∧ i = .int .i64 v ∧ (List.range v).all (legRow (toG l0_0 l0_1) l1 (l0_0.getD nd 0) dl) = true ∧ Below w8.heap.size w8 wr) (fun i _ => l1.length - (intOf i).toNat)
        case atStart => exact ⟨0, Nat.zero_le _, rfl, rfl, Below.refl _ _⟩
        case round =>
          obtain ⟨wv, rfl⟩ : ∃ wv : World, wv = wr := ⟨_, rfl⟩
          obtain ⟨v, hv, rfl, hall, hb⟩ := hrel
          have HAL := Go.Lib.hid hall
          have HBr := Go.Lib.hid hb
          have HBv := Go.Lib.hid (HB8.out.trans (hb.mono HB8.out.size))
          clear hall hb
          by_cases hlt : v < l1.length
          · obtain ⟨ad, A2, c2, hA, hcell, hl2, hC2⟩ := Go.Proofs.Ythapikakneikbaa.Kd.at_slice HC.out v hlt
            cases hA
            have hst : 2 < l1[v].length := by have := List.all_eq_true.1 HCAl.out _ (List.getElem_mem hlt); simpa using this
            obtain ⟨ads, hAs, hs0⟩ := Go.Proofs.Ythapikakneikbaa.Kd.at_int hC2 0 (by omega)
            cases hAs
            obtain ⟨_, hAs, hs1⟩ := Go.Proofs.Ythapikakneikbaa.Kd.at_int hC2 1 (by omega)
            cases hAs
            obtain ⟨_, hAs, hs2⟩ := Go.Proofs.Ythapikakneikbaa.Kd.at_int hC2 2 (by omega)
            cases hAs
            have HV0 := Go.Lib.hid (Go.Proofs.Ythapikakneikbaa.vl_at (c := l1) hlt (x := 0) (by omega))
            have HV1 := Go.Lib.hid (Go.Proofs.Ythapikakneikbaa.vl_at (c := l1) hlt (x := 1) (by omega))
            have HV2 := Go.Lib.hid (Go.Proofs.Ythapikakneikbaa.vl_at (c := l1) hlt (x := 2) hst)
            have hvp : v < (toG l0_0 l0_1).ports.length := by have := E1.out; have := HCLn.out; omega
            have hvq : v < l0_1.length := by have := HCLn.out; omega
            have hvd : v < dl.length := by have := HCLn.out; have := HDLn.out; omega
            obtain ⟨adp, AP, cP, hAp, hpc, hpl, hCP⟩ := Go.Proofs.Ythapikakneikbaa.Kd.at_slice HG.out.ports v hvp
            cases hAp
            have HT := Go.Lib.hid (HTO.out v hvp)
            have HPS := Go.Lib.hid (show (toG l0_0 l0_1).ports.getD v [] = (toG l0_0 l0_1).ports[v] by simp [List.getD_eq_getElem?_getD, hvp])
            obtain ⟨add, hAd, hdv⟩ := Go.Proofs.Ythapikakneikbaa.Kd.at_int HD8.out v hvd
            cases hAd
            have HDV := Go.Lib.hid (show dl.getD v 0 = dl[v] by simp [List.getD_eq_getElem?_getD, hvd])
            have HIV := Go.Lib.hid (show l0_0.getD nd 0 = l0_0[nd] by simp [List.getD_eq_getElem?_getD, hndl])
            have HCP := Go.Lib.hid hCP
            generalize l1[v][0] = s0 at hs0 HV0
            generalize l1[v][1] = s1 at hs1 HV1
            generalize l1[v][2] = s2 at hs2 HV2
            generalize l1[v] = st at hcell hl2 hst hC2
            generalize (toG l0_0 l0_1).ports[v] = ps at hpc hpl HCP HT HPS hCP
            generalize dl[v] = dv at hdv HDV
            generalize l0_0[nd] = idn at HIDC HIV
            have m0 := Go.Proofs.Ythapikakneikbaa.cell_b HBv.out hcell
            have HBa := Go.Lib.hid (HBv.out.alloc HBv.out.size (.cells #[.int .i64 (v : Int)] 3))
            have HBra := Go.Lib.hid (HBr.out.alloc HBr.out.size (.cells #[.int .i64 (v : Int)] 3))
            have BGa := Go.Lib.hid (Go.Proofs.Ythapikakneikbaa.blk_alloc (Go.Proofs.Ythapikakneikbaa.blk_below BG8.out HBr.out) (.cells #[.int .i64 (v : Int)] 3))
            have BVa := Go.Lib.hid (Go.Proofs.Ythapikakneikbaa.blk_new (w := wv) (o := .cells #[.int .i64 (v : Int)] 3) rfl)
            have BDa := Go.Lib.hid (Go.Proofs.Ythapikakneikbaa.blk_below BD8.out HBra.out)
            have m2 := Go.Proofs.Ythapikakneikbaa.blk_cell (j := 1) (v := .slice (some adp) l0_1.length c0_1) BGa.out rfl
            have m3 := Go.Proofs.Ythapikakneikbaa.cell_b HBa.out hpc
            have m4 := Go.Proofs.Ythapikakneikbaa.blk_cell (j := 0) (v := .int .i64 (v : Int)) BVa.out rfl
            have HS0 := Go.Lib.hid hs0
            have HS1 := Go.Lib.hid hs1
            have HS2 := Go.Lib.hid hs2
            have HDVc := Go.Lib.hid hdv
            clear hcell hpc hs0 hs1 hs2 hdv hC2 hCP
            go_wp2_with fail
            refine (Go.Proofs.Ythapikakneikbaa.index_calls _ AP cP ps (Go.Proofs.Ythapikakneikbaa.Kd.C_below HCP.out HBa.out) D wv.heap.size (some add) cD dl v BDa.out ⟨_, BVa.out⟩ (Go.Proofs.Ythapikakneikbaa.Kd.C_below HD8.out HBra.out) (fun l hl => by have := HT.out l hl; have := E1.out; have := HDLn.out; omega) hvd).mono ?_
            rintro e w9 ⟨rfl, hb9⟩
            have HB9 := Go.Lib.hid (HBa.out.trans (hb9.mono HBa.out.size))
            have HBr9 := Go.Lib.hid (HBra.out.trans (hb9.mono HBra.out.size))
            have BG9 := Go.Lib.hid (Go.Proofs.Ythapikakneikbaa.blk_below BGa.out hb9)
            have BV9 := Go.Lib.hid (Go.Proofs.Ythapikakneikbaa.blk_below BVa.out hb9)
            have BD9 := Go.Lib.hid (Go.Proofs.Ythapikakneikbaa.blk_below BDa.out hb9)
            clear hb9 m0 m2 m3 m4
            have n0 : w9.cell? ads = some (.int .i64 s0) := by have h := Go.Proofs.Ythapikakneikbaa.cell_b HB9.out HS0.out; simpa [Addr.add] using h
            have g0 : 0 < st.length := by omega
            have g1 : 1 < st.length := by omega
            have n1 : w9.cell? ⟨ads.block, ads.off + 1, none⟩ = some (.int .i64 s1) := Go.Proofs.Ythapikakneikbaa.cell_b HB9.out HS1.out
            have n2 : w9.cell? ⟨ads.block, ads.off + 2, none⟩ = some (.int .i64 s2) := Go.Proofs.Ythapikakneikbaa.cell_b HB9.out HS2.out
            have g3 : (1 : Int) < (st.length : Int) := by omega
            have g4 : (2 : Int) < (st.length : Int) := by omega
            have n3 := Go.Proofs.Ythapikakneikbaa.cell_b HB9.out HIDC.out
            have n4 := Go.Proofs.Ythapikakneikbaa.cell_b HBr9.out HDVc.out
            have n5 := Go.Proofs.Ythapikakneikbaa.blk_cell (j := 0) (v := .slice (some adi) l0_0.length c0_0) BG9.out rfl
            have n6 := Go.Proofs.Ythapikakneikbaa.blk_cell (j := 0) (v := .int .i64 (v : Int)) BV9.out rfl
            have n7 := Go.Proofs.Ythapikakneikbaa.blk_cell (j := 0) (v := .slice (some add) dl.length cD) BD9.out rfl
            have HRow := Go.Lib.hid (show legRow (toG l0_0 l0_1) l1 (l0_0.getD nd 0) dl v = (decide (s0 = idn) && decide (s1 = dv) && decide (s2 = firstL dl v ps 0)) by unfold legRow; rw [HV0.out, HV1.out, HV2.out, HIV.out, HDV.out, HPS.out])
            generalize firstL dl v ps 0 = fp at HRow ⊢
            have HB9d := Go.Lib.hid (show Below w.heap.size w w9.drew from ⟨HB9.out.os, HB9.out.tape, HB9.out.output, HB9.out.size, HB9.out.block⟩)
            have HBr9d := Go.Lib.hid (show Below w8.heap.size w8 w9.drew from ⟨HBr9.out.os, HBr9.out.tape, HBr9.out.output, HBr9.out.size, HBr9.out.block⟩)
            clear HCP HT HPS HBa HBra BGa BVa BDa
            by_cases q0 : s0 = idn
            · have t0 : (s0 != idn) = false := by simp [q0]
              have u0 : (s0 == idn) = true := by simp [q0]
              by_cases q1 : s1 = dv
              · have t1 : (s1 != dv) = false := by simp [q1]
                have u1 : (s1 == dv) = true := by simp [q1]
                by_cases q2 : s2 = fp
                · have t2 : (s2 != fp) = false := by simp [q2]
                  have u2 : (s2 == fp) = true := by simp [q2]
                  have HRT := Go.Lib.hid (show (List.range (v + 1)).all (legRow (toG l0_0 l0_1) l1 (l0_0.getD nd 0) dl) = true by rw [List.range_succ, List.all_append, HAL.out, Bool.true_and, List.all_cons, HRow.out, decide_eq_true q0, decide_eq_true q1, decide_eq_true q2]; rfl)
                  clear HRow q0 q1 q2
                  go_wp2_with fail
                  clear HV0 HV1 HV2 HIV HDV
                  refine start_ (n := 26) (S := fun w' => w'.cell? ads = some (.int .i64 s0) ∧ w'.cell? ⟨ads.block, ads.off + 1, none⟩ = some (.int .i64 s1) ∧ w'.cell? ⟨ads.block, ads.off + 2, none⟩ = some (.int .i64 s2) ∧ w'.cell? (adi.add nd) = some (.int .i64 idn) ∧ w'.cell? (add.add v) = some (.int .i64 dv) ∧ w'.cell? ⟨w.heap.size, 0, none⟩ = some (.slice (some adi) l0_0.length c0_0) ∧ w'.cell? ⟨wv.heap.size, 0, none⟩ = some (.int .i64 (v : Int)) ∧ w'.cell? ⟨D, 0, none⟩ = some (.slice (some add) dl.length cD)) (ds := []) #[false, false, false, false, false, false, false, false, false, false, false, false, false, false, false, false, false, false, false, false, false, false, false, false, false, false] (by kernel_rfl) rfl rfl ⟨n0, n1, n2, n3, n4, n5, n6, n7⟩ (fun hHeld => ?_)
                  refine pure_ (i := 0) (N := some 45) (v := ?_) (a' := ?_) #[true, false, false, false, false, false, false, false, false, false, false, false, false, false, false, false, false, false, false, false, false, false, false, false, false, false] rfl rfl (by kernel_rfl) (fun _ _ _ h => h) (Or.inl ⟨by rfl, ?_⟩) ?_ ?_
                  rotate_left
                  · intro w'
                    go_simp
                    with_reducible rfl
                  rotate_left
                  · simp only [Act.put, List.setIfInBounds_toArray, List.set_cons_zero, List.set_cons_succ, i64_w, i32_w]
                    rfl
                  refine pure_ (i := 1) (N := some 46) (v := ?_) (a' := ?_) #[true, true, false, false, false, false, false, false, false, false, false, false, false, false, false, false, false, false, false, false, false, false, false, false, false, false] rfl rfl (by kernel_rfl) (fun _ _ _ h => h) (Or.inl ⟨by rfl, ?_⟩) ?_ ?_
                  rotate_left
                  · intro w'
                    go_simp
                    with_reducible rfl
                  rotate_left
                  · simp only [Act.put, List.setIfInBounds_toArray, List.set_cons_zero, List.set_cons_succ, i64_w, i32_w]
                    rfl
                  refine pure_ (i := 3) (N := some 48) (v := ?_) (a' := ?_) #[true, true, false, true, false, false, false, false, false, false, false, false, false, false, false, false, false, false, false, false, false, false, false, false, false, false] rfl rfl (by kernel_rfl) (fun _ _ _ h => h) (Or.inl ⟨by rfl, ?_⟩) ?_ ?_
                  rotate_left
                  · intro w'
                    go_simp
                    with_reducible rfl
                  rotate_left
                  · simp only [Act.put, List.setIfInBounds_toArray, List.set_cons_zero, List.set_cons_succ, i64_w, i32_w]
                    rfl
                  refine pure_ (i := 5) (N := some 50) (v := ?_) (a' := ?_) #[true, true, false, true, false, true, false, false, false, false, false, false, false, false, false, false, false, false, false, false, false, false, false, false, false, false] rfl rfl (by kernel_rfl) (fun _ _ _ h => h) (Or.inl ⟨by rfl, ?_⟩) ?_ ?_
                  rotate_left
                  · intro w'
                    go_simp
                    with_reducible rfl
                  rotate_left
                  · simp only [Act.put, List.setIfInBounds_toArray, List.set_cons_zero, List.set_cons_succ, i64_w, i32_w]
                    rfl
                  refine take_ (i := 2) (N := some 47) (v := ?_) (a' := ?_) #[true, true, true, true, false, true, false, false, false, false, false, false, false, false, false, false, false, false, false, false, false, false, false, false, false, false] rfl rfl (by kernel_rfl) (fun _ _ _ h => h) (Or.inl ⟨by rfl, ?_⟩) hHeld ?_ ?_
                  rotate_left
                  · rintro w' ⟨s0, s1, s2, s3, s4, s5, s6, s7⟩
                    go_simp
                    with_reducible rfl
                  rotate_left
                  · simp only [Act.put, List.setIfInBounds_toArray, List.set_cons_zero, List.set_cons_succ, i64_w, i32_w]
                    rfl
                  refine take_ (i := 4) (N := some 49) (v := ?_) (a' := ?_) #[true, true, true, true, true, true, false, false, false, false, false, false, false, false, false, false, false, false, false, false, false, false, false, false, false, false] rfl rfl (by kernel_rfl) (fun _ _ _ h => h) (Or.inl ⟨by rfl, ?_⟩) hHeld ?_ ?_
                  rotate_left
                  · rintro w' ⟨s0, s1, s2, s3, s4, s5, s6, s7⟩
                    go_simp
                    with_reducible rfl
                  rotate_left
                  · simp only [Act.put, List.setIfInBounds_toArray, List.set_cons_zero, List.set_cons_succ, i64_w, i32_w]
                    rfl
                  refine pure_ (i := 6) (N := some 51) (v := ?_) (a' := ?_) #[true, true, true, true, true, true, true, false, false, false, false, false, false, false, false, false, false, false, false, false, false, false, false, false, false, false] rfl rfl (by kernel_rfl) (fun _ _ _ h => h) (Or.inl ⟨by rfl, ?_⟩) ?_ ?_
                  rotate_left
                  · intro w'
                    go_simp
                    with_reducible rfl
                  rotate_left
                  · simp only [Act.put, List.setIfInBounds_toArray, List.set_cons_zero, List.set_cons_succ, i64_w, i32_w]
                    rfl
                  refine take_ (i := 7) (N := some 52) (v := ?_) (a' := ?_) #[true, true, true, true, true, true, true, true, false, false, false, false, false, false, false, false, false, false, false, false, false, false, false, false, false, false] rfl rfl (by kernel_rfl) (fun _ _ _ h => h) (Or.inl ⟨by rfl, ?_⟩) hHeld ?_ ?_
                  rotate_left
                  · rintro w' ⟨s0, s1, s2, s3, s4, s5, s6, s7⟩
                    go_simp
                    with_reducible rfl
                  rotate_left
                  · simp only [Act.put, List.setIfInBounds_toArray, List.set_cons_zero, List.set_cons_succ, i64_w, i32_w]
                    rfl
                  refine pure_ (i := 8) (N := some 53) (v := ?_) (a' := ?_) #[true, true, true, true, true, true, true, true, true, false, false, false, false, false, false, false, false, false, false, false, false, false, false, false, false, false] rfl rfl (by kernel_rfl) (fun _ _ _ h => h) (Or.inl ⟨by rfl, ?_⟩) ?_ ?_
                  rotate_left
                  · intro w'
                    go_simp
                    with_reducible rfl
                  rotate_left
                  · simp only [Act.put, List.setIfInBounds_toArray, List.set_cons_zero, List.set_cons_succ, i64_w, i32_w]
                    rfl
                  refine pure_ (i := 9) (N := some 54) (v := ?_) (a' := ?_) #[true, true, true, true, true, true, true, true, true, true, false, false, false, false, false, false, false, false, false, false, false, false, false, false, false, false] rfl rfl (by kernel_rfl) (fun _ _ _ h => h) (Or.inl ⟨by rfl, ?_⟩) ?_ ?_
                  rotate_left
                  · intro w'
                    go_simp
                    with_reducible rfl
                  rotate_left
                  · simp only [Act.put, List.setIfInBounds_toArray, List.set_cons_zero, List.set_cons_succ, i64_w, i32_w]
                    rfl
                  refine pure_ (i := 10) (N := some 55) (v := ?_) (a' := ?_) #[true, true, true, true, true, true, true, true, true, true, true, false, false, false, false, false, false, false, false, false, false, false, false, false, false, false] rfl rfl (by kernel_rfl) (fun _ _ _ h => h) (Or.inl ⟨by rfl, ?_⟩) ?_ ?_
                  rotate_left
                  · intro w'
                    go_simp
                    with_reducible rfl
                  rotate_left
                  · simp only [Act.put, List.setIfInBounds_toArray, List.set_cons_zero, List.set_cons_succ, i64_w, i32_w]
                    rfl
                  refine pure_ (i := 11) (N := some 56) (v := ?_) (a' := ?_) #[true, true, true, true, true, true, true, true, true, true, true, true, false, false, false, false, false, false, false, false, false, false, false, false, false, false] rfl rfl (by kernel_rfl) (fun _ _ _ h => h) (Or.inl ⟨by rfl, ?_⟩) ?_ ?_
                  rotate_left
                  · intro w'
                    go_simp
                    with_reducible rfl
                  rotate_left
                  · simp only [Act.put, List.setIfInBounds_toArray, List.set_cons_zero, List.set_cons_succ, i64_w, i32_w]
                    rfl
                  refine take_ (i := 12) (N := some 57) (v := ?_) (a' := ?_) #[true, true, true, true, true, true, true, true, true, true, true, true, true, false, false, false, false, false, false, false, false, false, false, false, false, false] rfl rfl (by kernel_rfl) (fun _ _ _ h => h) (Or.inl ⟨by rfl, ?_⟩) hHeld ?_ ?_
                  rotate_left
                  · rintro w' ⟨s0, s1, s2, s3, s4, s5, s6, s7⟩
                    go_simp
                    with_reducible rfl
                  rotate_left
                  · simp only [Act.put, List.setIfInBounds_toArray, List.set_cons_zero, List.set_cons_succ, i64_w, i32_w]
                    rfl
                  refine take_ (i := 13) (N := some 58) (v := ?_) (a' := ?_) #[true, true, true, true, true, true, true, true, true, true, true, true, true, true, false, false, false, false, false, false, false, false, false, false, false, false] rfl rfl (by kernel_rfl) (fun _ _ _ h => h) (Or.inl ⟨by rfl, ?_⟩) hHeld ?_ ?_
                  rotate_left
                  · rintro w' ⟨s0, s1, s2, s3, s4, s5, s6, s7⟩
                    go_simp
                    with_reducible rfl
                  rotate_left
                  · simp only [Act.put, List.setIfInBounds_toArray, List.set_cons_zero, List.set_cons_succ, i64_w, i32_w]
                    rfl
                  refine take_ (i := 14) (N := some 59) (v := ?_) (a' := ?_) #[true, true, true, true, true, true, true, true, true, true, true, true, true, true, true, false, false, false, false, false, false, false, false, false, false, false] rfl rfl (by kernel_rfl) (fun _ _ _ h => h) (Or.inl ⟨by rfl, ?_⟩) hHeld ?_ ?_
                  rotate_left
                  · rintro w' ⟨s0, s1, s2, s3, s4, s5, s6, s7⟩
                    go_simp
                    with_reducible rfl
                  rotate_left
                  · simp only [Act.put, List.setIfInBounds_toArray, List.set_cons_zero, List.set_cons_succ, i64_w, i32_w]
                    rfl
                  refine pure_ (i := 15) (N := some 60) (v := ?_) (a' := ?_) #[true, true, true, true, true, true, true, true, true, true, true, true, true, true, true, true, false, false, false, false, false, false, false, false, false, false] rfl rfl (by kernel_rfl) (fun _ _ _ h => h) (Or.inl ⟨by rfl, ?_⟩) ?_ ?_
                  rotate_left
                  · intro w'
                    go_simp
                    with_reducible rfl
                  rotate_left
                  · simp only [Act.put, List.setIfInBounds_toArray, List.set_cons_zero, List.set_cons_succ, i64_w, i32_w]
                    rfl
                  refine take_ (i := 16) (N := some 61) (v := ?_) (a' := ?_) #[true, true, true, true, true, true, true, true, true, true, true, true, true, true, true, true, true, false, false, false, false, false, false, false, false, false] rfl rfl (by kernel_rfl) (fun _ _ _ h => h) (Or.inl ⟨by rfl, ?_⟩) hHeld ?_ ?_
                  rotate_left
                  · rintro w' ⟨s0, s1, s2, s3, s4, s5, s6, s7⟩
                    go_simp
                    with_reducible rfl
                  rotate_left
                  · simp only [Act.put, List.setIfInBounds_toArray, List.set_cons_zero, List.set_cons_succ, i64_w, i32_w]
                    rfl
                  refine pure_ (i := 17) (N := some 62) (v := ?_) (a' := ?_) #[true, true, true, true, true, true, true, true, true, true, true, true, true, true, true, true, true, true, false, false, false, false, false, false, false, false] rfl rfl (by kernel_rfl) (fun _ _ _ h => h) (Or.inl ⟨by rfl, ?_⟩) ?_ ?_
                  rotate_left
                  · intro w'
                    go_simp
                    with_reducible rfl
                  rotate_left
                  · simp only [Act.put, List.setIfInBounds_toArray, List.set_cons_zero, List.set_cons_succ, i64_w, i32_w]
                    rfl
                  refine pure_ (i := 18) (N := some 63) (v := ?_) (a' := ?_) #[true, true, true, true, true, true, true, true, true, true, true, true, true, true, true, true, true, true, true, false, false, false, false, false, false, false] rfl rfl (by kernel_rfl) (fun _ _ _ h => h) (Or.inl ⟨by rfl, ?_⟩) ?_ ?_
                  rotate_left
                  · intro w'
                    go_simp
                    with_reducible rfl
                  rotate_left
                  · simp only [Act.put, List.setIfInBounds_toArray, List.set_cons_zero, List.set_cons_succ, i64_w, i32_w]
                    rfl
                  refine pure_ (i := 19) (N := some 64) (v := ?_) (a' := ?_) #[true, true, true, true, true, true, true, true, true, true, true, true, true, true, true, true, true, true, true, true, false, false, false, false, false, false] rfl rfl (by kernel_rfl) (fun _ _ _ h => h) (Or.inl ⟨by rfl, ?_⟩) ?_ ?_
                  rotate_left
                  · intro w'
                    go_simp
                    with_reducible rfl
                  rotate_left
                  · simp only [Act.put, List.setIfInBounds_toArray, List.set_cons_zero, List.set_cons_succ, i64_w, i32_w]
                    rfl
                  refine pure_ (i := 20) (N := some 65) (v := ?_) (a' := ?_) #[true, true, true, true, true, true, true, true, true, true, true, true, true, true, true, true, true, true, true, true, true, false, false, false, false, false] rfl rfl (by kernel_rfl) (fun _ _ _ h => h) (Or.inl ⟨by rfl, ?_⟩) ?_ ?_
                  rotate_left
                  · intro w'
                    go_simp
                    with_reducible rfl
                  rotate_left
                  · simp only [Act.put, List.setIfInBounds_toArray, List.set_cons_zero, List.set_cons_succ, i64_w, i32_w]
                    rfl
                  refine pure_ (i := 21) (N := some 66) (v := ?_) (a' := ?_) #[true, true, true, true, true, true, true, true, true, true, true, true, true, true, true, true, true, true, true, true, true, true, false, false, false, false] rfl rfl (by kernel_rfl) (fun _ _ _ h => h) (Or.inl ⟨by rfl, ?_⟩) ?_ ?_
                  rotate_left
                  · intro w'
                    go_simp
                    with_reducible rfl
                  rotate_left
                  · simp only [Act.put, List.setIfInBounds_toArray, List.set_cons_zero, List.set_cons_succ, i64_w, i32_w]
                    rfl
                  refine pure_ (i := 23) (N := some 68) (v := ?_) (a' := ?_) #[true, true, true, true, true, true, true, true, true, true, true, true, true, true, true, true, true, true, true, true, true, true, false, true, false, false] rfl rfl (by kernel_rfl) (fun _ _ _ h => h) (Or.inl ⟨by rfl, ?_⟩) ?_ ?_
                  rotate_left
                  · intro w'
                    go_simp
                    with_reducible rfl
                  rotate_left
                  · simp only [Act.put, List.setIfInBounds_toArray, List.set_cons_zero, List.set_cons_succ, i64_w, i32_w]
                    rfl
                  refine take_ (i := 22) (N := some 67) (v := ?_) (a' := ?_) #[true, true, true, true, true, true, true, true, true, true, true, true, true, true, true, true, true, true, true, true, true, true, true, true, false, false] rfl rfl (by kernel_rfl) (fun _ _ _ h => h) (Or.inl ⟨by rfl, ?_⟩) hHeld ?_ ?_
                  rotate_left
                  · rintro w' ⟨s0, s1, s2, s3, s4, s5, s6, s7⟩
                    go_simp
                    with_reducible rfl
                  rotate_left
                  · simp only [Act.put, List.setIfInBounds_toArray, List.set_cons_zero, List.set_cons_succ, i64_w, i32_w]
                    rfl
                  refine pure_ (i := 24) (N := some 69) (v := ?_) (a' := ?_) #[true, true, true, true, true, true, true, true, true, true, true, true, true, true, true, true, true, true, true, true, true, true, true, true, true, false] rfl rfl (by kernel_rfl) (fun _ _ _ h => h) (Or.inl ⟨by rfl, ?_⟩) ?_ ?_
                  rotate_left
                  · intro w'
                    go_simp
                    with_reducible rfl
                  rotate_left
                  · simp only [Act.put, List.setIfInBounds_toArray, List.set_cons_zero, List.set_cons_succ, i64_w, i32_w]
                    rfl
                  refine pure_ (i := 25) (N := some 70) (v := ?_) (a' := ?_) #[true, true, true, true, true, true, true, true, true, true, true, true, true, true, true, true, true, true, true, true, true, true, true, true, true, true] rfl rfl (by kernel_rfl) (fun _ _ _ h => h) (Or.inl ⟨by rfl, ?_⟩) ?_ ?_
                  rotate_left
                  · intro w'
                    go_simp
                    with_reducible rfl
                  rotate_left
                  · simp only [Act.put, List.setIfInBounds_toArray, List.set_cons_zero, List.set_cons_succ, i64_w, i32_w]
                    rfl
                  refine done_ (by kernel_rfl) ?_
                  go_wp2_with fail
                  go_roundw
                  case rel => exact ⟨v + 1, by omega, by go_num, HRT.out, HBr9d.out⟩
                  case measure => simp [intOf]; omega
                · skip
                  have t2 : (s2 != fp) = true := by simp [q2]
                  have u2 : (s2 == fp) = false := by simp [q2]
                  have HRN := Go.Lib.hid (show r = false by rw [← HQ2.out]; exact legB_no hlt (by rw [HRow.out, decide_eq_false q2, Bool.and_false]))
                  clear HRow q0 q1 q2 HV0 HV1 HV2 HIV HDV
                  go_wp2_with fail
                  refine start_ (n := 26) (S := fun w' => w'.cell? ads = some (.int .i64 s0) ∧ w'.cell? ⟨ads.block, ads.off + 1, none⟩ = some (.int .i64 s1) ∧ w'.cell? ⟨ads.block, ads.off + 2, none⟩ = some (.int .i64 s2) ∧ w'.cell? (adi.add nd) = some (.int .i64 idn) ∧ w'.cell? (add.add v) = some (.int .i64 dv) ∧ w'.cell? ⟨w.heap.size, 0, none⟩ = some (.slice (some adi) l0_0.length c0_0) ∧ w'.cell? ⟨wv.heap.size, 0, none⟩ = some (.int .i64 (v : Int)) ∧ w'.cell? ⟨D, 0, none⟩ = some (.slice (some add) dl.length cD)) (ds := []) #[false, false, false, false, false, false, false, false, false, false, false, false, false, false, false, false, false, false, false, false, false, false, false, false, false, false] (by kernel_rfl) rfl rfl ⟨n0, n1, n2, n3, n4, n5, n6, n7⟩ (fun hHeld => ?_)
                  refine pure_ (i := 0) (N := some 45) (v := ?_) (a' := ?_) #[true, false, false, false, false, false, false, false, false, false, false, false, false, false, false, false, false, false, false, false, false, false, false, false, false, false] rfl rfl (by kernel_rfl) (fun _ _ _ h => h) (Or.inl ⟨by rfl, ?_⟩) ?_ ?_
                  rotate_left
                  · intro w'
                    go_simp
                    with_reducible rfl
                  rotate_left
                  · simp only [Act.put, List.setIfInBounds_toArray, List.set_cons_zero, List.set_cons_succ, i64_w, i32_w]
                    rfl
                  refine pure_ (i := 1) (N := some 46) (v := ?_) (a' := ?_) #[true, true, false, false, false, false, false, false, false, false, false, false, false, false, false, false, false, false, false, false, false, false, false, false, false, false] rfl rfl (by kernel_rfl) (fun _ _ _ h => h) (Or.inl ⟨by rfl, ?_⟩) ?_ ?_
                  rotate_left
                  · intro w'
                    go_simp
                    with_reducible rfl
                  rotate_left
                  · simp only [Act.put, List.setIfInBounds_toArray, List.set_cons_zero, List.set_cons_succ, i64_w, i32_w]
                    rfl
                  refine pure_ (i := 3) (N := some 48) (v := ?_) (a' := ?_) #[true, true, false, true, false, false, false, false, false, false, false, false, false, false, false, false, false, false, false, false, false, false, false, false, false, false] rfl rfl (by kernel_rfl) (fun _ _ _ h => h) (Or.inl ⟨by rfl, ?_⟩) ?_ ?_
                  rotate_left
                  · intro w'
                    go_simp
                    with_reducible rfl
                  rotate_left
                  · simp only [Act.put, List.setIfInBounds_toArray, List.set_cons_zero, List.set_cons_succ, i64_w, i32_w]
                    rfl
                  refine pure_ (i := 5) (N := some 50) (v := ?_) (a' := ?_) #[true, true, false, true, false, true, false, false, false, false, false, false, false, false, false, false, false, false, false, false, false, false, false, false, false, false] rfl rfl (by kernel_rfl) (fun _ _ _ h => h) (Or.inl ⟨by rfl, ?_⟩) ?_ ?_
                  rotate_left
                  · intro w'
                    go_simp
                    with_reducible rfl
                  rotate_left
                  · simp only [Act.put, List.setIfInBounds_toArray, List.set_cons_zero, List.set_cons_succ, i64_w, i32_w]
                    rfl
                  refine take_ (i := 2) (N := some 47) (v := ?_) (a' := ?_) #[true, true, true, true, false, true, false, false, false, false, false, false, false, false, false, false, false, false, false, false, false, false, false, false, false, false] rfl rfl (by kernel_rfl) (fun _ _ _ h => h) (Or.inl ⟨by rfl, ?_⟩) hHeld ?_ ?_
                  rotate_left
                  · rintro w' ⟨s0, s1, s2, s3, s4, s5, s6, s7⟩
                    go_simp
                    with_reducible rfl
                  rotate_left
                  · simp only [Act.put, List.setIfInBounds_toArray, List.set_cons_zero, List.set_cons_succ, i64_w, i32_w]
                    rfl
                  refine take_ (i := 4) (N := some 49) (v := ?_) (a' := ?_) #[true, true, true, true, true, true, false, false, false, false, false, false, false, false, false, false, false, false, false, false, false, false, false, false, false, false] rfl rfl (by kernel_rfl) (fun _ _ _ h => h) (Or.inl ⟨by rfl, ?_⟩) hHeld ?_ ?_
                  rotate_left
                  · rintro w' ⟨s0, s1, s2, s3, s4, s5, s6, s7⟩
                    go_simp
                    with_reducible rfl
                  rotate_left
                  · simp only [Act.put, List.setIfInBounds_toArray, List.set_cons_zero, List.set_cons_succ, i64_w, i32_w]
                    rfl
                  refine pure_ (i := 6) (N := some 51) (v := ?_) (a' := ?_) #[true, true, true, true, true, true, true, false, false, false, false, false, false, false, false, false, false, false, false, false, false, false, false, false, false, false] rfl rfl (by kernel_rfl) (fun _ _ _ h => h) (Or.inl ⟨by rfl, ?_⟩) ?_ ?_
                  rotate_left
                  · intro w'
                    go_simp
                    with_reducible rfl
                  rotate_left
                  · simp only [Act.put, List.setIfInBounds_toArray, List.set_cons_zero, List.set_cons_succ, i64_w, i32_w]
                    rfl
                  refine take_ (i := 7) (N := some 52) (v := ?_) (a' := ?_) #[true, true, true, true, true, true, true, true, false, false, false, false, false, false, false, false, false, false, false, false, false, false, false, false, false, false] rfl rfl (by kernel_rfl) (fun _ _ _ h => h) (Or.inl ⟨by rfl, ?_⟩) hHeld ?_ ?_
                  rotate_left
                  · rintro w' ⟨s0, s1, s2, s3, s4, s5, s6, s7⟩
                    go_simp
                    with_reducible rfl
                  rotate_left
                  · simp only [Act.put, List.setIfInBounds_toArray, List.set_cons_zero, List.set_cons_succ, i64_w, i32_w]
                    rfl
                  refine pure_ (i := 8) (N := some 53) (v := ?_) (a' := ?_) #[true, true, true, true, true, true, true, true, true, false, false, false, false, false, false, false, false, false, false, false, false, false, false, false, false, false] rfl rfl (by kernel_rfl) (fun _ _ _ h => h) (Or.inl ⟨by rfl, ?_⟩) ?_ ?_
                  rotate_left
                  · intro w'
                    go_simp
                    with_reducible rfl
                  rotate_left
                  · simp only [Act.put, List.setIfInBounds_toArray, List.set_cons_zero, List.set_cons_succ, i64_w, i32_w]
                    rfl
                  refine pure_ (i := 9) (N := some 54) (v := ?_) (a' := ?_) #[true, true, true, true, true, true, true, true, true, true, false, false, false, false, false, false, false, false, false, false, false, false, false, false, false, false] rfl rfl (by kernel_rfl) (fun _ _ _ h => h) (Or.inl ⟨by rfl, ?_⟩) ?_ ?_
                  rotate_left
                  · intro w'
                    go_simp
                    with_reducible rfl
                  rotate_left
                  · simp only [Act.put, List.setIfInBounds_toArray, List.set_cons_zero, List.set_cons_succ, i64_w, i32_w]
                    rfl
                  refine pure_ (i := 10) (N := some 55) (v := ?_) (a' := ?_) #[true, true, true, true, true, true, true, true, true, true, true, false, false, false, false, false, false, false, false, false, false, false, false, false, false, false] rfl rfl (by kernel_rfl) (fun _ _ _ h => h) (Or.inl ⟨by rfl, ?_⟩) ?_ ?_
                  rotate_left
                  · intro w'
                    go_simp
                    with_reducible rfl
                  rotate_left
                  · simp only [Act.put, List.setIfInBounds_toArray, List.set_cons_zero, List.set_cons_succ, i64_w, i32_w]
                    rfl
                  refine pure_ (i := 11) (N := some 56) (v := ?_) (a' := ?_) #[true, true, true, true, true, true, true, true, true, true, true, true, false, false, false, false, false, false, false, false, false, false, false, false, false, false] rfl rfl (by kernel_rfl) (fun _ _ _ h => h) (Or.inl ⟨by rfl, ?_⟩) ?_ ?_
                  rotate_left
                  · intro w'
                    go_simp
                    with_reducible rfl
                  rotate_left
                  · simp only [Act.put, List.setIfInBounds_toArray, List.set_cons_zero, List.set_cons_succ, i64_w, i32_w]
                    rfl
                  refine take_ (i := 12) (N := some 57) (v := ?_) (a' := ?_) #[true, true, true, true, true, true, true, true, true, true, true, true, true, false, false, false, false, false, false, false, false, false, false, false, false, false] rfl rfl (by kernel_rfl) (fun _ _ _ h => h) (Or.inl ⟨by rfl, ?_⟩) hHeld ?_ ?_
                  rotate_left
                  · rintro w' ⟨s0, s1, s2, s3, s4, s5, s6, s7⟩
                    go_simp
                    with_reducible rfl
                  rotate_left
                  · simp only [Act.put, List.setIfInBounds_toArray, List.set_cons_zero, List.set_cons_succ, i64_w, i32_w]
                    rfl
                  refine take_ (i := 13) (N := some 58) (v := ?_) (a' := ?_) #[true, true, true, true, true, true, true, true, true, true, true, true, true, true, false, false, false, false, false, false, false, false, false, false, false, false] rfl rfl (by kernel_rfl) (fun _ _ _ h => h) (Or.inl ⟨by rfl, ?_⟩) hHeld ?_ ?_
                  rotate_left
                  · rintro w' ⟨s0, s1, s2, s3, s4, s5, s6, s7⟩
                    go_simp
                    with_reducible rfl
                  rotate_left
                  · simp only [Act.put, List.setIfInBounds_toArray, List.set_cons_zero, List.set_cons_succ, i64_w, i32_w]
                    rfl
                  refine take_ (i := 14) (N := some 59) (v := ?_) (a' := ?_) #[true, true, true, true, true, true, true, true, true, true, true, true, true, true, true, false, false, false, false, false, false, false, false, false, false, false] rfl rfl (by kernel_rfl) (fun _ _ _ h => h) (Or.inl ⟨by rfl, ?_⟩) hHeld ?_ ?_
                  rotate_left
                  · rintro w' ⟨s0, s1, s2, s3, s4, s5, s6, s7⟩
                    go_simp
                    with_reducible rfl
                  rotate_left
                  · simp only [Act.put, List.setIfInBounds_toArray, List.set_cons_zero, List.set_cons_succ, i64_w, i32_w]
                    rfl
                  refine pure_ (i := 15) (N := some 60) (v := ?_) (a' := ?_) #[true, true, true, true, true, true, true, true, true, true, true, true, true, true, true, true, false, false, false, false, false, false, false, false, false, false] rfl rfl (by kernel_rfl) (fun _ _ _ h => h) (Or.inl ⟨by rfl, ?_⟩) ?_ ?_
                  rotate_left
                  · intro w'
                    go_simp
                    with_reducible rfl
                  rotate_left
                  · simp only [Act.put, List.setIfInBounds_toArray, List.set_cons_zero, List.set_cons_succ, i64_w, i32_w]
                    rfl
                  refine take_ (i := 16) (N := some 61) (v := ?_) (a' := ?_) #[true, true, true, true, true, true, true, true, true, true, true, true, true, true, true, true, true, false, false, false, false, false, false, false, false, false] rfl rfl (by kernel_rfl) (fun _ _ _ h => h) (Or.inl ⟨by rfl, ?_⟩) hHeld ?_ ?_
                  rotate_left
                  · rintro w' ⟨s0, s1, s2, s3, s4, s5, s6, s7⟩
                    go_simp
                    with_reducible rfl
                  rotate_left
                  · simp only [Act.put, List.setIfInBounds_toArray, List.set_cons_zero, List.set_cons_succ, i64_w, i32_w]
                    rfl
                  refine pure_ (i := 17) (N := some 62) (v := ?_) (a' := ?_) #[true, true, true, true, true, true, true, true, true, true, true, true, true, true, true, true, true, true, false, false, false, false, false, false, false, false] rfl rfl (by kernel_rfl) (fun _ _ _ h => h) (Or.inl ⟨by rfl, ?_⟩) ?_ ?_
                  rotate_left
                  · intro w'
                    go_simp
                    with_reducible rfl
                  rotate_left
                  · simp only [Act.put, List.setIfInBounds_toArray, List.set_cons_zero, List.set_cons_succ, i64_w, i32_w]
                    rfl
                  refine pure_ (i := 18) (N := some 63) (v := ?_) (a' := ?_) #[true, true, true, true, true, true, true, true, true, true, true, true, true, true, true, true, true, true, true, false, false, false, false, false, false, false] rfl rfl (by kernel_rfl) (fun _ _ _ h => h) (Or.inl ⟨by rfl, ?_⟩) ?_ ?_
                  rotate_left
                  · intro w'
                    go_simp
                    with_reducible rfl
                  rotate_left
                  · simp only [Act.put, List.setIfInBounds_toArray, List.set_cons_zero, List.set_cons_succ, i64_w, i32_w]
                    rfl
                  refine pure_ (i := 19) (N := some 64) (v := ?_) (a' := ?_) #[true, true, true, true, true, true, true, true, true, true, true, true, true, true, true, true, true, true, true, true, false, false, false, false, false, false] rfl rfl (by kernel_rfl) (fun _ _ _ h => h) (Or.inl ⟨by rfl, ?_⟩) ?_ ?_
                  rotate_left
                  · intro w'
                    go_simp
                    with_reducible rfl
                  rotate_left
                  · simp only [Act.put, List.setIfInBounds_toArray, List.set_cons_zero, List.set_cons_succ, i64_w, i32_w]
                    rfl
                  refine pure_ (i := 20) (N := some 65) (v := ?_) (a' := ?_) #[true, true, true, true, true, true, true, true, true, true, true, true, true, true, true, true, true, true, true, true, true, false, false, false, false, false] rfl rfl (by kernel_rfl) (fun _ _ _ h => h) (Or.inl ⟨by rfl, ?_⟩) ?_ ?_
                  rotate_left
                  · intro w'
                    go_simp
                    with_reducible rfl
                  rotate_left
                  · simp only [Act.put, List.setIfInBounds_toArray, List.set_cons_zero, List.set_cons_succ, i64_w, i32_w]
                    rfl
                  refine pure_ (i := 21) (N := some 66) (v := ?_) (a' := ?_) #[true, true, true, true, true, true, true, true, true, true, true, true, true, true, true, true, true, true, true, true, true, true, false, false, false, false] rfl rfl (by kernel_rfl) (fun _ _ _ h => h) (Or.inl ⟨by rfl, ?_⟩) ?_ ?_
                  rotate_left
                  · intro w'
                    go_simp
                    with_reducible rfl
                  rotate_left
                  · simp only [Act.put, List.setIfInBounds_toArray, List.set_cons_zero, List.set_cons_succ, i64_w, i32_w]
                    rfl
                  refine pure_ (i := 23) (N := some 68) (v := ?_) (a' := ?_) #[true, true, true, true, true, true, true, true, true, true, true, true, true, true, true, true, true, true, true, true, true, true, false, true, false, false] rfl rfl (by kernel_rfl) (fun _ _ _ h => h) (Or.inl ⟨by rfl, ?_⟩) ?_ ?_
                  rotate_left
                  · intro w'
                    go_simp
                    with_reducible rfl
                  rotate_left
                  · simp only [Act.put, List.setIfInBounds_toArray, List.set_cons_zero, List.set_cons_succ, i64_w, i32_w]
                    rfl
                  refine take_ (i := 22) (N := some 67) (v := ?_) (a' := ?_) #[true, true, true, true, true, true, true, true, true, true, true, true, true, true, true, true, true, true, true, true, true, true, true, true, false, false] rfl rfl (by kernel_rfl) (fun _ _ _ h => h) (Or.inl ⟨by rfl, ?_⟩) hHeld ?_ ?_
                  rotate_left
                  · rintro w' ⟨s0, s1, s2, s3, s4, s5, s6, s7⟩
                    go_simp
                    with_reducible rfl
                  rotate_left
                  · simp only [Act.put, List.setIfInBounds_toArray, List.set_cons_zero, List.set_cons_succ, i64_w, i32_w]
                    rfl
                  refine pure_ (i := 24) (N := some 69) (v := ?_) (a' := ?_) #[true, true, true, true, true, true, true, true, true, true, true, true, true, true, true, true, true, true, true, true, true, true, true, true, true, false] rfl rfl (by kernel_rfl) (fun _ _ _ h => h) (Or.inl ⟨by rfl, ?_⟩) ?_ ?_
                  rotate_left
                  · intro w'
                    go_simp
                    with_reducible rfl
                  rotate_left
                  · simp only [Act.put, List.setIfInBounds_toArray, List.set_cons_zero, List.set_cons_succ, i64_w, i32_w]
                    rfl
                  refine pure_ (i := 25) (N := some 70) (v := ?_) (a' := ?_) #[true, true, true, true, true, true, true, true, true, true, true, true, true, true, true, true, true, true, true, true, true, true, true, true, true, true] rfl rfl (by kernel_rfl) (fun _ _ _ h => h) (Or.inl ⟨by rfl, ?_⟩) ?_ ?_
                  rotate_left
                  · intro w'
                    go_simp
                    with_reducible rfl
                  rotate_left
                  · simp only [Act.put, List.setIfInBounds_toArray, List.set_cons_zero, List.set_cons_succ, i64_w, i32_w]
                    rfl
                  refine done_ (by kernel_rfl) ?_
                  go_wp2_with fail
                  go_ret
                  exact ⟨by rw [HRN.out]; rfl, HB9d.out⟩
              · skip
                have t1 : (s1 != dv) = true := by simp [q1]
                have u1 : (s1 == dv) = false := by simp [q1]
                have HRN := Go.Lib.hid (show r = false by rw [← HQ2.out]; exact legB_no hlt (by rw [HRow.out, decide_eq_false q1, Bool.and_false, Bool.false_and]))
                clear HRow q0 q1 HV0 HV1 HV2 HIV HDV
                go_wp2_with fail
                refine start_ (n := 26) (S := fun w' => w'.cell? ads = some (.int .i64 s0) ∧ w'.cell? ⟨ads.block, ads.off + 1, none⟩ = some (.int .i64 s1) ∧ w'.cell? ⟨ads.block, ads.off + 2, none⟩ = some (.int .i64 s2) ∧ w'.cell? (adi.add nd) = some (.int .i64 idn) ∧ w'.cell? (add.add v) = some (.int .i64 dv) ∧ w'.cell? ⟨w.heap.size, 0, none⟩ = some (.slice (some adi) l0_0.length c0_0) ∧ w'.cell? ⟨wv.heap.size, 0, none⟩ = some (.int .i64 (v : Int)) ∧ w'.cell? ⟨D, 0, none⟩ = some (.slice (some add) dl.length cD)) (ds := []) #[false, false, false, false, false, false, false, false, false, false, false, false, false, false, false, false, false, false, false, false, false, false, false, false, false, false] (by kernel_rfl) rfl rfl ⟨n0, n1, n2, n3, n4, n5, n6, n7⟩ (fun hHeld => ?_)
                refine pure_ (i := 0) (N := some 45) (v := ?_) (a' := ?_) #[true, false, false, false, false, false, false, false, false, false, false, false, false, false, false, false, false, false, false, false, false, false, false, false, false, false] rfl rfl (by kernel_rfl) (fun _ _ _ h => h) (Or.inl ⟨by rfl, ?_⟩) ?_ ?_
                rotate_left
                · intro w'
                  go_simp
                  with_reducible rfl
                rotate_left
                · simp only [Act.put, List.setIfInBounds_toArray, List.set_cons_zero, List.set_cons_succ, i64_w, i32_w]
                  rfl
                refine pure_ (i := 1) (N := some 46) (v := ?_) (a' := ?_) #[true, true, false, false, false, false, false, false, false, false, false, false, false, false, false, false, false, false, false, false, false, false, false, false, false, false] rfl rfl (by kernel_rfl) (fun _ _ _ h => h) (Or.inl ⟨by rfl, ?_⟩) ?_ ?_
                rotate_left
                · intro w'
                  go_simp
                  with_reducible rfl
                rotate_left
                · simp only [Act.put, List.setIfInBounds_toArray, List.set_cons_zero, List.set_cons_succ, i64_w, i32_w]
                  rfl
                refine pure_ (i := 3) (N := some 48) (v := ?_) (a' := ?_) #[true, true, false, true, false, false, false, false, false, false, false, false, false, false, false, false, false, false, false, false, false, false, false, false, false, false] rfl rfl (by kernel_rfl) (fun _ _ _ h => h) (Or.inl ⟨by rfl, ?_⟩) ?_ ?_
                rotate_left
                · intro w'
                  go_simp
                  with_reducible rfl
                rotate_left
                · simp only [Act.put, List.setIfInBounds_toArray, List.set_cons_zero, List.set_cons_succ, i64_w, i32_w]
                  rfl
                refine pure_ (i := 5) (N := some 50) (v := ?_) (a' := ?_) #[true, true, false, true, false, true, false, false, false, false, false, false, false, false, false, false, false, false, false, false, false, false, false, false, false, false] rfl rfl (by kernel_rfl) (fun _ _ _ h => h) (Or.inl ⟨by rfl, ?_⟩) ?_ ?_
                rotate_left
                · intro w'
                  go_simp
                  with_reducible rfl
                rotate_left
                · simp only [Act.put, List.setIfInBounds_toArray, List.set_cons_zero, List.set_cons_succ, i64_w, i32_w]
                  rfl
                refine take_ (i := 2) (N := some 47) (v := ?_) (a' := ?_) #[true, true, true, true, false, true, false, false, false, false, false, false, false, false, false, false, false, false, false, false, false, false, false, false, false, false] rfl rfl (by kernel_rfl) (fun _ _ _ h => h) (Or.inl ⟨by rfl, ?_⟩) hHeld ?_ ?_
                rotate_left
                · rintro w' ⟨s0, s1, s2, s3, s4, s5, s6, s7⟩
                  go_simp
                  with_reducible rfl
                rotate_left
                · simp only [Act.put, List.setIfInBounds_toArray, List.set_cons_zero, List.set_cons_succ, i64_w, i32_w]
                  rfl
                refine take_ (i := 4) (N := some 49) (v := ?_) (a' := ?_) #[true, true, true, true, true, true, false, false, false, false, false, false, false, false, false, false, false, false, false, false, false, false, false, false, false, false] rfl rfl (by kernel_rfl) (fun _ _ _ h => h) (Or.inl ⟨by rfl, ?_⟩) hHeld ?_ ?_
                rotate_left
                · rintro w' ⟨s0, s1, s2, s3, s4, s5, s6, s7⟩
                  go_simp
                  with_reducible rfl
                rotate_left
                · simp only [Act.put, List.setIfInBounds_toArray, List.set_cons_zero, List.set_cons_succ, i64_w, i32_w]
                  rfl
                refine pure_ (i := 6) (N := some 51) (v := ?_) (a' := ?_) #[true, true, true, true, true, true, true, false, false, false, false, false, false, false, false, false, false, false, false, false, false, false, false, false, false, false] rfl rfl (by kernel_rfl) (fun _ _ _ h => h) (Or.inl ⟨by rfl, ?_⟩) ?_ ?_
                rotate_left
                · intro w'
                  go_simp
                  with_reducible rfl
                rotate_left
                · simp only [Act.put, List.setIfInBounds_toArray, List.set_cons_zero, List.set_cons_succ, i64_w, i32_w]
                  rfl
                refine take_ (i := 7) (N := some 52) (v := ?_) (a' := ?_) #[true, true, true, true, true, true, true, true, false, false, false, false, false, false, false, false, false, false, false, false, false, false, false, false, false, false] rfl rfl (by kernel_rfl) (fun _ _ _ h => h) (Or.inl ⟨by rfl, ?_⟩) hHeld ?_ ?_
                rotate_left
                · rintro w' ⟨s0, s1, s2, s3, s4, s5, s6, s7⟩
                  go_simp
                  with_reducible rfl
                rotate_left
                · simp only [Act.put, List.setIfInBounds_toArray, List.set_cons_zero, List.set_cons_succ, i64_w, i32_w]
                  rfl
                refine pure_ (i := 8) (N := some 53) (v := ?_) (a' := ?_) #[true, true, true, true, true, true, true, true, true, false, false, false, false, false, false, false, false, false, false, false, false, false, false, false, false, false] rfl rfl (by kernel_rfl) (fun _ _ _ h => h) (Or.inl ⟨by rfl, ?_⟩) ?_ ?_
                rotate_left
                · intro w'
                  go_simp
                  with_reducible rfl
                rotate_left
                · simp only [Act.put, List.setIfInBounds_toArray, List.set_cons_zero, List.set_cons_succ, i64_w, i32_w]
                  rfl
                refine pure_ (i := 9) (N := some 54) (v := ?_) (a' := ?_) #[true, true, true, true, true, true, true, true, true, true, false, false, false, false, false, false, false, false, false, false, false, false, false, false, false, false] rfl rfl (by kernel_rfl) (fun _ _ _ h => h) (Or.inl ⟨by rfl, ?_⟩) ?_ ?_
                rotate_left
                · intro w'
                  go_simp
                  with_reducible rfl
                rotate_left
                · simp only [Act.put, List.setIfInBounds_toArray, List.set_cons_zero, List.set_cons_succ, i64_w, i32_w]
                  rfl
                refine pure_ (i := 10) (N := some 55) (v := ?_) (a' := ?_) #[true, true, true, true, true, true, true, true, true, true, true, false, false, false, false, false, false, false, false, false, false, false, false, false, false, false] rfl rfl (by kernel_rfl) (fun _ _ _ h => h) (Or.inl ⟨by rfl, ?_⟩) ?_ ?_
                rotate_left
                · intro w'
                  go_simp
                  with_reducible rfl
                rotate_left
                · simp only [Act.put, List.setIfInBounds_toArray, List.set_cons_zero, List.set_cons_succ, i64_w, i32_w]
                  rfl
                refine pure_ (i := 11) (N := some 56) (v := ?_) (a' := ?_) #[true, true, true, true, true, true, true, true, true, true, true, true, false, false, false, false, false, false, false, false, false, false, false, false, false, false] rfl rfl (by kernel_rfl) (fun _ _ _ h => h) (Or.inl ⟨by rfl, ?_⟩) ?_ ?_
                rotate_left
                · intro w'
                  go_simp
                  with_reducible rfl
                rotate_left
                · simp only [Act.put, List.setIfInBounds_toArray, List.set_cons_zero, List.set_cons_succ, i64_w, i32_w]
                  rfl
                refine take_ (i := 12) (N := some 57) (v := ?_) (a' := ?_) #[true, true, true, true, true, true, true, true, true, true, true, true, true, false, false, false, false, false, false, false, false, false, false, false, false, false] rfl rfl (by kernel_rfl) (fun _ _ _ h => h) (Or.inl ⟨by rfl, ?_⟩) hHeld ?_ ?_
                rotate_left
                · rintro w' ⟨s0, s1, s2, s3, s4, s5, s6, s7⟩
                  go_simp
                  with_reducible rfl
                rotate_left
                · simp only [Act.put, List.setIfInBounds_toArray, List.set_cons_zero, List.set_cons_succ, i64_w, i32_w]
                  rfl
                refine take_ (i := 13) (N := some 58) (v := ?_) (a' := ?_) #[true, true, true, true, true, true, true, true, true, true, true, true, true, true, false, false, false, false, false, false, false, false, false, false, false, false] rfl rfl (by kernel_rfl) (fun _ _ _ h => h) (Or.inl ⟨by rfl, ?_⟩) hHeld ?_ ?_
                rotate_left
                · rintro w' ⟨s0, s1, s2, s3, s4, s5, s6, s7⟩
                  go_simp
                  with_reducible rfl
                rotate_left
                · simp only [Act.put, List.setIfInBounds_toArray, List.set_cons_zero, List.set_cons_succ, i64_w, i32_w]
                  rfl
                refine take_ (i := 14) (N := some 59) (v := ?_) (a' := ?_) #[true, true, true, true, true, true, true, true, true, true, true, true, true, true, true, false, false, false, false, false, false, false, false, false, false, false] rfl rfl (by kernel_rfl) (fun _ _ _ h => h) (Or.inl ⟨by rfl, ?_⟩) hHeld ?_ ?_
                rotate_left
                · rintro w' ⟨s0, s1, s2, s3, s4, s5, s6, s7⟩
                  go_simp
                  with_reducible rfl
                rotate_left
                · simp only [Act.put, List.setIfInBounds_toArray, List.set_cons_zero, List.set_cons_succ, i64_w, i32_w]
                  rfl
                refine pure_ (i := 15) (N := some 60) (v := ?_) (a' := ?_) #[true, true, true, true, true, true, true, true, true, true, true, true, true, true, true, true, false, false, false, false, false, false, false, false, false, false] rfl rfl (by kernel_rfl) (fun _ _ _ h => h) (Or.inl ⟨by rfl, ?_⟩) ?_ ?_
                rotate_left
                · intro w'
                  go_simp
                  with_reducible rfl
                rotate_left
                · simp only [Act.put, List.setIfInBounds_toArray, List.set_cons_zero, List.set_cons_succ, i64_w, i32_w]
                  rfl
                refine take_ (i := 16) (N := some 61) (v := ?_) (a' := ?_) #[true, true, true, true, true, true, true, true, true, true, true, true, true, true, true, true, true, false, false, false, false, false, false, false, false, false] rfl rfl (by kernel_rfl) (fun _ _ _ h => h) (Or.inl ⟨by rfl, ?_⟩) hHeld ?_ ?_
                rotate_left
                · rintro w' ⟨s0, s1, s2, s3, s4, s5, s6, s7⟩
                  go_simp
                  with_reducible rfl
                rotate_left
                · simp only [Act.put, List.setIfInBounds_toArray, List.set_cons_zero, List.set_cons_succ, i64_w, i32_w]
                  rfl
                refine pure_ (i := 17) (N := some 62) (v := ?_) (a' := ?_) #[true, true, true, true, true, true, true, true, true, true, true, true, true, true, true, true, true, true, false, false, false, false, false, false, false, false] rfl rfl (by kernel_rfl) (fun _ _ _ h => h) (Or.inl ⟨by rfl, ?_⟩) ?_ ?_
                rotate_left
                · intro w'
                  go_simp
                  with_reducible rfl
                rotate_left
                · simp only [Act.put, List.setIfInBounds_toArray, List.set_cons_zero, List.set_cons_succ, i64_w, i32_w]
                  rfl
                refine pure_ (i := 18) (N := some 63) (v := ?_) (a' := ?_) #[true, true, true, true, true, true, true, true, true, true, true, true, true, true, true, true, true, true, true, false, false, false, false, false, false, false] rfl rfl (by kernel_rfl) (fun _ _ _ h => h) (Or.inl ⟨by rfl, ?_⟩) ?_ ?_
                rotate_left
                · intro w'
                  go_simp
                  with_reducible rfl
                rotate_left
                · simp only [Act.put, List.setIfInBounds_toArray, List.set_cons_zero, List.set_cons_succ, i64_w, i32_w]
                  rfl
                refine pure_ (i := 19) (N := some 64) (v := ?_) (a' := ?_) #[true, true, true, true, true, true, true, true, true, true, true, true, true, true, true, true, true, true, true, true, false, false, false, false, false, false] rfl rfl (by kernel_rfl) (fun _ _ _ h => h) (Or.inl ⟨by rfl, ?_⟩) ?_ ?_
                rotate_left
                · intro w'
                  go_simp
                  with_reducible rfl
                rotate_left
                · simp only [Act.put, List.setIfInBounds_toArray, List.set_cons_zero, List.set_cons_succ, i64_w, i32_w]
                  rfl
                refine pure_ (i := 20) (N := some 65) (v := undef) (a' := ?_) #[true, true, true, true, true, true, true, true, true, true, true, true, true, true, true, true, true, true, true, true, true, false, false, false, false, false] rfl rfl (by kernel_rfl) (fun _ _ _ h => h) (Or.inr ⟨by rfl, rfl⟩) ?_ ?_
                rotate_left
                · simp only [Act.put, List.setIfInBounds_toArray, List.set_cons_zero, List.set_cons_succ, i64_w, i32_w]
                  rfl
                refine pure_ (i := 21) (N := some 66) (v := undef) (a' := ?_) #[true, true, true, true, true, true, true, true, true, true, true, true, true, true, true, true, true, true, true, true, true, true, false, false, false, false] rfl rfl (by kernel_rfl) (fun _ _ _ h => h) (Or.inr ⟨by rfl, rfl⟩) ?_ ?_
                rotate_left
                · simp only [Act.put, List.setIfInBounds_toArray, List.set_cons_zero, List.set_cons_succ, i64_w, i32_w]
                  rfl
                refine pure_ (i := 22) (N := some 67) (v := undef) (a' := ?_) #[true, true, true, true, true, true, true, true, true, true, true, true, true, true, true, true, true, true, true, true, true, true, true, false, false, false] rfl rfl (by kernel_rfl) (fun _ _ _ h => h) (Or.inr ⟨by rfl, rfl⟩) ?_ ?_
                rotate_left
                · simp only [Act.put, List.setIfInBounds_toArray, List.set_cons_zero, List.set_cons_succ, i64_w, i32_w]
                  rfl
                refine pure_ (i := 23) (N := some 68) (v := undef) (a' := ?_) #[true, true, true, true, true, true, true, true, true, true, true, true, true, true, true, true, true, true, true, true, true, true, true, true, false, false] rfl rfl (by kernel_rfl) (fun _ _ _ h => h) (Or.inr ⟨by rfl, rfl⟩) ?_ ?_
                rotate_left
                · simp only [Act.put, List.setIfInBounds_toArray, List.set_cons_zero, List.set_cons_succ, i64_w, i32_w]
                  rfl
                refine pure_ (i := 24) (N := some 69) (v := undef) (a' := ?_) #[true, true, true, true, true, true, true, true, true, true, true, true, true, true, true, true, true, true, true, true, true, true, true, true, true, false] rfl rfl (by kernel_rfl) (fun _ _ _ h => h) (Or.inr ⟨by rfl, rfl⟩) ?_ ?_
                rotate_left
                · simp only [Act.put, List.setIfInBounds_toArray, List.set_cons_zero, List.set_cons_succ, i64_w, i32_w]
                  rfl
                refine pure_ (i := 25) (N := some 70) (v := ?_) (a' := ?_) #[true, true, true, true, true, true, true, true, true, true, true, true, true, true, true, true, true, true, true, true, true, true, true, true, true, true] rfl rfl (by kernel_rfl) (fun _ _ _ h => h) (Or.inl ⟨by rfl, ?_⟩) ?_ ?_
                rotate_left
                · intro w'
                  go_simp
                  with_reducible rfl
                rotate_left
                · simp only [Act.put, List.setIfInBounds_toArray, List.set_cons_zero, List.set_cons_succ, i64_w, i32_w]
                  rfl
                refine done_ (by kernel_rfl) ?_
                go_wp2_with fail
                go_ret
                exact ⟨by rw [HRN.out]; rfl, HB9d.out⟩
            · skip
              have t0 : (s0 != idn) = true := by simp [q0]
              have u0 : (s0 == idn) = false := by simp [q0]
              have HRN := Go.Lib.hid (show r = false by rw [← HQ2.out]; exact legB_no hlt (by rw [HRow.out, decide_eq_false q0, Bool.false_and, Bool.false_and]))
              clear HRow q0 HV0 HV1 HV2 HIV HDV
              go_wp2_with fail
              refine start_ (n := 26) (S := fun w' => w'.cell? ads = some (.int .i64 s0) ∧ w'.cell? ⟨ads.block, ads.off + 1, none⟩ = some (.int .i64 s1) ∧ w'.cell? ⟨ads.block, ads.off + 2, none⟩ = some (.int .i64 s2) ∧ w'.cell? (adi.add nd) = some (.int .i64 idn) ∧ w'.cell? (add.add v) = some (.int .i64 dv) ∧ w'.cell? ⟨w.heap.size, 0, none⟩ = some (.slice (some adi) l0_0.length c0_0) ∧ w'.cell? ⟨wv.heap.size, 0, none⟩ = some (.int .i64 (v : Int)) ∧ w'.cell? ⟨D, 0, none⟩ = some (.slice (some add) dl.length cD)) (ds := []) #[false, false, false, false, false, false, false, false, false, false, false, false, false, false, false, false, false, false, false, false, false, false, false, false, false, false] (by kernel_rfl) rfl rfl ⟨n0, n1, n2, n3, n4, n5, n6, n7⟩ (fun hHeld => ?_)
              refine pure_ (i := 0) (N := some 45) (v := ?_) (a' := ?_) #[true, false, false, false, false, false, false, false, false, false, false, false, false, false, false, false, false, false, false, false, false, false, false, false, false, false] rfl rfl (by kernel_rfl) (fun _ _ _ h => h) (Or.inl ⟨by rfl, ?_⟩) ?_ ?_
              rotate_left
              · intro w'
                go_simp
                with_reducible rfl
              rotate_left
              · simp only [Act.put, List.setIfInBounds_toArray, List.set_cons_zero, List.set_cons_succ, i64_w, i32_w]
                rfl
              refine pure_ (i := 1) (N := some 46) (v := ?_) (a' := ?_) #[true, true, false, false, false, false, false, false, false, false, false, false, false, false, false, false, false, false, false, false, false, false, false, false, false, false] rfl rfl (by kernel_rfl) (fun _ _ _ h => h) (Or.inl ⟨by rfl, ?_⟩) ?_ ?_
              rotate_left
              · intro w'
                go_simp
                with_reducible rfl
              rotate_left
              · simp only [Act.put, List.setIfInBounds_toArray, List.set_cons_zero, List.set_cons_succ, i64_w, i32_w]
                rfl
              refine pure_ (i := 3) (N := some 48) (v := ?_) (a' := ?_) #[true, true, false, true, false, false, false, false, false, false, false, false, false, false, false, false, false, false, false, false, false, false, false, false, false, false] rfl rfl (by kernel_rfl) (fun _ _ _ h => h) (Or.inl ⟨by rfl, ?_⟩) ?_ ?_
              rotate_left
              · intro w'
                go_simp
                with_reducible rfl
              rotate_left
              · simp only [Act.put, List.setIfInBounds_toArray, List.set_cons_zero, List.set_cons_succ, i64_w, i32_w]
                rfl
              refine pure_ (i := 5) (N := some 50) (v := ?_) (a' := ?_) #[true, true, false, true, false, true, false, false, false, false, false, false, false, false, false, false, false, false, false, false, false, false, false, false, false, false] rfl rfl (by kernel_rfl) (fun _ _ _ h => h) (Or.inl ⟨by rfl, ?_⟩) ?_ ?_
              rotate_left
              · intro w'
                go_simp
                with_reducible rfl
              rotate_left
              · simp only [Act.put, List.setIfInBounds_toArray, List.set_cons_zero, List.set_cons_succ, i64_w, i32_w]
                rfl
              refine take_ (i := 2) (N := some 47) (v := ?_) (a' := ?_) #[true, true, true, true, false, true, false, false, false, false, false, false, false, false, false, false, false, false, false, false, false, false, false, false, false, false] rfl rfl (by kernel_rfl) (fun _ _ _ h => h) (Or.inl ⟨by rfl, ?_⟩) hHeld ?_ ?_
              rotate_left
              · rintro w' ⟨s0, s1, s2, s3, s4, s5, s6, s7⟩
                go_simp
                with_reducible rfl
              rotate_left
              · simp only [Act.put, List.setIfInBounds_toArray, List.set_cons_zero, List.set_cons_succ, i64_w, i32_w]
                rfl
              refine take_ (i := 4) (N := some 49) (v := ?_) (a' := ?_) #[true, true, true, true, true, true, false, false, false, false, false, false, false, false, false, false, false, false, false, false, false, false, false, false, false, false] rfl rfl (by kernel_rfl) (fun _ _ _ h => h) (Or.inl ⟨by rfl, ?_⟩) hHeld ?_ ?_
              rotate_left
              · rintro w' ⟨s0, s1, s2, s3, s4, s5, s6, s7⟩
                go_simp
                with_reducible rfl
              rotate_left
              · simp only [Act.put, List.setIfInBounds_toArray, List.set_cons_zero, List.set_cons_succ, i64_w, i32_w]
                rfl
              refine pure_ (i := 6) (N := some 51) (v := ?_) (a' := ?_) #[true, true, true, true, true, true, true, false, false, false, false, false, false, false, false, false, false, false, false, false, false, false, false, false, false, false] rfl rfl (by kernel_rfl) (fun _ _ _ h => h) (Or.inl ⟨by rfl, ?_⟩) ?_ ?_
              rotate_left
              · intro w'
                go_simp
                with_reducible rfl
              rotate_left
              · simp only [Act.put, List.setIfInBounds_toArray, List.set_cons_zero, List.set_cons_succ, i64_w, i32_w]
                rfl
              refine take_ (i := 7) (N := some 52) (v := ?_) (a' := ?_) #[true, true, true, true, true, true, true, true, false, false, false, false, false, false, false, false, false, false, false, false, false, false, false, false, false, false] rfl rfl (by kernel_rfl) (fun _ _ _ h => h) (Or.inl ⟨by rfl, ?_⟩) hHeld ?_ ?_
              rotate_left
              · rintro w' ⟨s0, s1, s2, s3, s4, s5, s6, s7⟩
                go_simp
                with_reducible rfl
              rotate_left
              · simp only [Act.put, List.setIfInBounds_toArray, List.set_cons_zero, List.set_cons_succ, i64_w, i32_w]
                rfl
              refine pure_ (i := 8) (N := some 53) (v := ?_) (a' := ?_) #[true, true, true, true, true, true, true, true, true, false, false, false, false, false, false, false, false, false, false, false, false, false, false, false, false, false] rfl rfl (by kernel_rfl) (fun _ _ _ h => h) (Or.inl ⟨by rfl, ?_⟩) ?_ ?_
              rotate_left
              · intro w'
                go_simp
                with_reducible rfl
              rotate_left
              · simp only [Act.put, List.setIfInBounds_toArray, List.set_cons_zero, List.set_cons_succ, i64_w, i32_w]
                rfl
              refine pure_ (i := 9) (N := some 54) (v := ?_) (a' := ?_) #[true, true, true, true, true, true, true, true, true, true, false, false, false, false, false, false, false, false, false, false, false, false, false, false, false, false] rfl rfl (by kernel_rfl) (fun _ _ _ h => h) (Or.inl ⟨by rfl, ?_⟩) ?_ ?_
              rotate_left
              · intro w'
                go_simp
                with_reducible rfl
              rotate_left
              · simp only [Act.put, List.setIfInBounds_toArray, List.set_cons_zero, List.set_cons_succ, i64_w, i32_w]
                rfl
              refine pure_ (i := 10) (N := some 55) (v := undef) (a' := ?_) #[true, true, true, true, true, true, true, true, true, true, true, false, false, false, false, false, false, false, false, false, false, false, false, false, false, false] rfl rfl (by kernel_rfl) (fun _ _ _ h => h) (Or.inr ⟨by rfl, rfl⟩) ?_ ?_
              rotate_left
              · simp only [Act.put, List.setIfInBounds_toArray, List.set_cons_zero, List.set_cons_succ, i64_w, i32_w]
                rfl
              refine pure_ (i := 11) (N := some 56) (v := undef) (a' := ?_) #[true, true, true, true, true, true, true, true, true, true, true, true, false, false, false, false, false, false, false, false, false, false, false, false, false, false] rfl rfl (by kernel_rfl) (fun _ _ _ h => h) (Or.inr ⟨by rfl, rfl⟩) ?_ ?_
              rotate_left
              · simp only [Act.put, List.setIfInBounds_toArray, List.set_cons_zero, List.set_cons_succ, i64_w, i32_w]
                rfl
              refine pure_ (i := 12) (N := some 57) (v := undef) (a' := ?_) #[true, true, true, true, true, true, true, true, true, true, true, true, true, false, false, false, false, false, false, false, false, false, false, false, false, false] rfl rfl (by kernel_rfl) (fun _ _ _ h => h) (Or.inr ⟨by rfl, rfl⟩) ?_ ?_
              rotate_left
              · simp only [Act.put, List.setIfInBounds_toArray, List.set_cons_zero, List.set_cons_succ, i64_w, i32_w]
                rfl
              refine pure_ (i := 13) (N := some 58) (v := undef) (a' := ?_) #[true, true, true, true, true, true, true, true, true, true, true, true, true, true, false, false, false, false, false, false, false, false, false, false, false, false] rfl rfl (by kernel_rfl) (fun _ _ _ h => h) (Or.inr ⟨by rfl, rfl⟩) ?_ ?_
              rotate_left
              · simp only [Act.put, List.setIfInBounds_toArray, List.set_cons_zero, List.set_cons_succ, i64_w, i32_w]
                rfl
              refine pure_ (i := 14) (N := some 59) (v := undef) (a' := ?_) #[true, true, true, true, true, true, true, true, true, true, true, true, true, true, true, false, false, false, false, false, false, false, false, false, false, false] rfl rfl (by kernel_rfl) (fun _ _ _ h => h) (Or.inr ⟨by rfl, rfl⟩) ?_ ?_
              rotate_left
              · simp only [Act.put, List.setIfInBounds_toArray, List.set_cons_zero, List.set_cons_succ, i64_w, i32_w]
                rfl
              refine pure_ (i := 15) (N := some 60) (v := undef) (a' := ?_) #[true, true, true, true, true, true, true, true, true, true, true, true, true, true, true, true, false, false, false, false, false, false, false, false, false, false] rfl rfl (by kernel_rfl) (fun _ _ _ h => h) (Or.inr ⟨by rfl, rfl⟩) ?_ ?_
              rotate_left
              · simp only [Act.put, List.setIfInBounds_toArray, List.set_cons_zero, List.set_cons_succ, i64_w, i32_w]
                rfl
              refine pure_ (i := 16) (N := some 61) (v := undef) (a' := ?_) #[true, true, true, true, true, true, true, true, true, true, true, true, true, true, true, true, true, false, false, false, false, false, false, false, false, false] rfl rfl (by kernel_rfl) (fun _ _ _ h => h) (Or.inr ⟨by rfl, rfl⟩) ?_ ?_
              rotate_left
              · simp only [Act.put, List.setIfInBounds_toArray, List.set_cons_zero, List.set_cons_succ, i64_w, i32_w]
                rfl
              refine pure_ (i := 17) (N := some 62) (v := undef) (a' := ?_) #[true, true, true, true, true, true, true, true, true, true, true, true, true, true, true, true, true, true, false, false, false, false, false, false, false, false] rfl rfl (by kernel_rfl) (fun _ _ _ h => h) (Or.inr ⟨by rfl, rfl⟩) ?_ ?_
              rotate_left
              · simp only [Act.put, List.setIfInBounds_toArray, List.set_cons_zero, List.set_cons_succ, i64_w, i32_w]
                rfl
              refine pure_ (i := 18) (N := some 63) (v := ?_) (a' := ?_) #[true, true, true, true, true, true, true, true, true, true, true, true, true, true, true, true, true, true, true, false, false, false, false, false, false, false] rfl rfl (by kernel_rfl) (fun _ _ _ h => h) (Or.inl ⟨by rfl, ?_⟩) ?_ ?_
              rotate_left
              · intro w'
                go_simp
                with_reducible rfl
              rotate_left
              · simp only [Act.put, List.setIfInBounds_toArray, List.set_cons_zero, List.set_cons_succ, i64_w, i32_w]
                rfl
              refine pure_ (i := 19) (N := some 64) (v := ?_) (a' := ?_) #[true, true, true, true, true, true, true, true, true, true, true, true, true, true, true, true, true, true, true, true, false, false, false, false, false, false] rfl rfl (by kernel_rfl) (fun _ _ _ h => h) (Or.inl ⟨by rfl, ?_⟩) ?_ ?_
              rotate_left
              · intro w'
                go_simp
                with_reducible rfl
              rotate_left
              · simp only [Act.put, List.setIfInBounds_toArray, List.set_cons_zero, List.set_cons_succ, i64_w, i32_w]
                rfl
              refine pure_ (i := 20) (N := some 65) (v := undef) (a' := ?_) #[true, true, true, true, true, true, true, true, true, true, true, true, true, true, true, true, true, true, true, true, true, false, false, false, false, false] rfl rfl (by kernel_rfl) (fun _ _ _ h => h) (Or.inr ⟨by rfl, rfl⟩) ?_ ?_
              rotate_left
              · simp only [Act.put, List.setIfInBounds_toArray, List.set_cons_zero, List.set_cons_succ, i64_w, i32_w]
                rfl
              refine pure_ (i := 21) (N := some 66) (v := undef) (a' := ?_) #[true, true, true, true, true, true, true, true, true, true, true, true, true, true, true, true, true, true, true, true, true, true, false, false, false, false] rfl rfl (by kernel_rfl) (fun _ _ _ h => h) (Or.inr ⟨by rfl, rfl⟩) ?_ ?_
              rotate_left
              · simp only [Act.put, List.setIfInBounds_toArray, List.set_cons_zero, List.set_cons_succ, i64_w, i32_w]
                rfl
              refine pure_ (i := 22) (N := some 67) (v := undef) (a' := ?_) #[true, true, true, true, true, true, true, true, true, true, true, true, true, true, true, true, true, true, true, true, true, true, true, false, false, false] rfl rfl (by kernel_rfl) (fun _ _ _ h => h) (Or.inr ⟨by rfl, rfl⟩) ?_ ?_
              rotate_left
              · simp only [Act.put, List.setIfInBounds_toArray, List.set_cons_zero, List.set_cons_succ, i64_w, i32_w]
                rfl
              refine pure_ (i := 23) (N := some 68) (v := undef) (a' := ?_) #[true, true, true, true, true, true, true, true, true, true, true, true, true, true, true, true, true, true, true, true, true, true, true, true, false, false] rfl rfl (by kernel_rfl) (fun _ _ _ h => h) (Or.inr ⟨by rfl, rfl⟩) ?_ ?_
              rotate_left
              · simp only [Act.put, List.setIfInBounds_toArray, List.set_cons_zero, List.set_cons_succ, i64_w, i32_w]
                rfl
              refine pure_ (i := 24) (N := some 69) (v := undef) (a' := ?_) #[true, true, true, true, true, true, true, true, true, true, true, true, true, true, true, true, true, true, true, true, true, true, true, true, true, false] rfl rfl (by kernel_rfl) (fun _ _ _ h => h) (Or.inr ⟨by rfl, rfl⟩) ?_ ?_
              rotate_left
              · simp only [Act.put, List.setIfInBounds_toArray, List.set_cons_zero, List.set_cons_succ, i64_w, i32_w]
                rfl
              refine pure_ (i := 25) (N := some 70) (v := ?_) (a' := ?_) #[true, true, true, true, true, true, true, true, true, true, true, true, true, true, true, true, true, true, true, true, true, true, true, true, true, true] rfl rfl (by kernel_rfl) (fun _ _ _ h => h) (Or.inl ⟨by rfl, ?_⟩) ?_ ?_
              rotate_left
              · intro w'
                go_simp
                with_reducible rfl
              rotate_left
              · simp only [Act.put, List.setIfInBounds_toArray, List.set_cons_zero, List.set_cons_succ, i64_w, i32_w]
                rfl
              refine done_ (by kernel_rfl) ?_
              go_wp2_with fail
              go_ret
              exact ⟨by rw [HRN.out]; rfl, HB9d.out⟩
          · have HE := Go.Lib.hid (show r = true by rw [← HQ2.out]; unfold legB; rw [← show v = l1.length by omega]; exact HAL.out)
            go_wp2_with fail
            go_ret
            exact ⟨by rw [HE.out]; rfl, HBv.out⟩
      · rw [if_neg hcd] at hq
        cases hq
end Go.Proofs.YthapikakneikbaaG
namespace Go.Proofs.YthapikakneikbaaG
open Go.RowKit Go.Proofs.YthapikakneikbaaW.PrintWords Go.Proofs.YthapikakneikbaaW.PrintLast Go.Proofs.YthapikakneikbaaW.PrintMore
attribute [local go_sem] max2_int min2_int max_two min_two max_three min_three max_four min_four   -- for this text's walks alone
set_option linter.unusedVariables false
set_option linter.unusedSimpArgs false
def leader_Legit.f (k : Nat) (l0_0 : List Int) (l0_1 : List (List (S60))) (l1 : List (List Int)) : Option (Bool) := legit26 k l0_0 l0_1 l1
theorem leader_Legit.mono : ∀ a0 a1 a2 k, LeO (leader_Legit.f k a0 a1 a2) (leader_Legit.f (k + 1) a0 a1 a2) := fun a0 a1 a2 k => legit26_mono k a0 a1 a2
theorem leader_Legit.calls (k : Nat) (A0_0 : Option Addr) (c0_0 : Nat) (l0_0 : List Int) (A0_1 : Option Addr) (c0_1 : Nat) (l0_1 : List (List (S60))) (A1 : Option Addr) (c1 : Nat) (l1 : List (List Int)) (r : Bool) (w : World) (hr0_0 : Kd.C (Kd.int .i64) w A0_0 l0_0.length l0_0) (hc0_0 : l0_0.length ≤ c0_0) (hr0_1 : Kd.C (Kd.slice 60 k60) w A0_1 l0_1.length l0_1) (hc0_1 : l0_1.length ≤ c0_1) (hr1 : Kd.C (Kd.slice 3 (Kd.int .i64)) w A1 l1.length l1) (hc1 : l1.length ≤ c1) (h : leader_Legit.f k l0_0 l0_1 l1 = some r) :
  Calls Try.prog 51 #[.agg #[.slice A0_0 l0_0.length c0_0, .slice A0_1 l0_1.length c0_1], .slice A1 l1.length c1] w fun e w' => e = .returned (.bool r) ∧ Below w.heap.size w w' := by
 exact legit26_calls k A0_0 c0_0 l0_0 A0_1 c0_1 l0_1 A1 c1 l1 r w hr0_0 hc0_0 hr0_1 hc0_1 hr1 hc1 h
end Go.Proofs.YthapikakneikbaaG
namespace Go.Proofs.YthapikakneikbaaG
open Go.RowKit Go.Proofs.YthapikakneikbaaW.PrintWords Go.Proofs.YthapikakneikbaaW.PrintLast Go.Proofs.YthapikakneikbaaW.PrintMore
attribute [local go_sem] max2_int min2_int max_two min_two max_three min_three max_four min_four   -- for this text's walks alone
set_option linter.unusedVariables false
set_option linter.unusedSimpArgs false
def leader_Claim.f (k : Nat) (l0_0 : List Int) (l0_1 : List (List (S60))) : Option (Int × Bool × Bool × Int × Int) := (leader_Fit.f k l0_0 l0_1).bind fun t669 => (if t669 = true then ((leader_least.f k l0_0 l0_1).bind fun t670 => ((graph_Eccentricity.f k l0_0 l0_1 t670).bind fun t671 => (some (3, false, true, wrap64 ((l0_1.length : Int) + t671), (-1))))) else (some (0, false, false, 0, 0)))
theorem leader_Claim.mono : ∀ a0 a1 k, LeO (leader_Claim.f k a0 a1) (leader_Claim.f (k + 1) a0 a1) := by
 intro a0 a1 k
 unfold leader_Claim.f
 repeat' first
   | (with_reducible exact graph_Eccentricity.mono _ _ _ _)
   | (with_reducible exact leader_Fit.mono _ _ _)
   | (with_reducible exact leader_least.mono _ _ _)
   | (with_reducible exact LeO.refl _)
   | (with_reducible exact LeO.none _)
   | (with_reducible refine LeO.ite ?_ ?_)
   | (with_reducible refine LeO.bind ?_ (fun _ => ?_))
   | exact graph_Eccentricity.mono _ _ _ _
   | exact leader_Fit.mono _ _ _
   | exact leader_least.mono _ _ _
   | exact LeO.none _
   | refine LeO.ite ?_ ?_
   | refine LeO.bind ?_ (fun _ => ?_)
def leader_Claim.T3 : Bool × List (List Nat × List Nat) := (true, [([], []), ([0], [0]), ([1], [1]), ([], []), ([], []), ([4], [4]), ([3, 5, 5], [3, 5]), ([2, 6], [2, 6]), ([7], [7]), ([8, 6, 0, 1, 2, 3, 4, 5, 6, 7, 8], [8])])
def leader_Claim.B3 : List Nat := [0, 1, 3, 0, 0, 16, 56, 127, 255, 511]
theorem leader_Claim.tab3 : rtab .any (opsOf Try.f53 3) = leader_Claim.T3 := by kernel_rfl
theorem leader_Claim.bits3 : waitsOk leader_Claim.T3.2 leader_Claim.B3 = true := by kernel_rfl
set_option maxHeartbeats 8000000 in
set_option maxRecDepth 100000 in
theorem leader_Claim.calls (k : Nat) (A0_0 : Option Addr) (c0_0 : Nat) (l0_0 : List Int) (A0_1 : Option Addr) (c0_1 : Nat) (l0_1 : List (List (S60))) (r1 : Int) (r2 : Bool) (r3 : Bool) (r4 : Int) (r5 : Int) (w : World) (hr0_0 : Kd.C (Kd.int .i64) w A0_0 l0_0.length l0_0) (hc0_0 : l0_0.length ≤ c0_0) (hr0_1 : Kd.C (Kd.slice 60 k60) w A0_1 l0_1.length l0_1) (hc0_1 : l0_1.length ≤ c0_1) (h : leader_Claim.f k l0_0 l0_1 = some (r1, r2, r3, r4, r5)) :
  Calls Try.prog 53 #[.agg #[.slice A0_0 l0_0.length c0_0, .slice A0_1 l0_1.length c0_1]] w fun e w' => e = .returned (.agg #[.int .i64 r1, .bool r2, .bool r3, .int .i64 r4, .int .i64 r5]) ∧ Below w.heap.size w w' := by
 have hu27 := Try.underlying27
 have hu44 := Try.underlying44
 have HR0_0 := Aside0.mk hr0_0
 have HC0_0 := Aside0.mk hc0_0
 clear hr0_0 hc0_0
 have HR0_1 := Aside0.mk hr0_1
 have HC0_1 := Aside0.mk hc0_1
 clear hr0_1 hc0_1
 have HB := Aside0.mk (Below.refl w.heap.size w)
 have H : ((leader_Fit.f k l0_0 l0_1).bind fun t669 => (if t669 = true then ((leader_least.f k l0_0 l0_1).bind fun t670 => ((graph_Eccentricity.f k l0_0 l0_1 t670).bind fun t671 => (some (3, false, true, wrap64 ((l0_1.length : Int) + t671), (-1))))) else (some (0, false, false, 0, 0)))) = some (r1, r2, r3, r4, r5) := h
 clear h
 replace H := Option.bind_eq_some_iff.mp H
 obtain ⟨t669, A20, H⟩ := H
 replace H : (if t669 = true then ((leader_least.f k l0_0 l0_1).bind fun t670 => ((graph_Eccentricity.f k l0_0 l0_1 t670).bind fun t671 => (some (3, false, true, wrap64 ((l0_1.length : Int) + t671), (-1))))) else (some (0, false, false, 0, 0))) = some (r1, r2, r3, r4, r5) := H
 have A2 := Aside0.mk A20
 clear A20
 by_cases c3 : t669 = true
 ·
  subst c3
  have H1 : ((leader_least.f k l0_0 l0_1).bind fun t670 => ((graph_Eccentricity.f k l0_0 l0_1 t670).bind fun t671 => (some (3, false, true, wrap64 ((l0_1.length : Int) + t671), (-1))))) = some (r1, r2, r3, r4, r5) := by rw [if_pos rfl] at H; exact H
  clear H
  have H := H1
  clear H1
  replace H := Option.bind_eq_some_iff.mp H
  obtain ⟨t670, A40, H⟩ := H
  replace H : ((graph_Eccentricity.f k l0_0 l0_1 t670).bind fun t671 => (some (3, false, true, wrap64 ((l0_1.length : Int) + t671), (-1)))) = some (r1, r2, r3, r4, r5) := H
  have A4 := Aside0.mk A40
  clear A40
  replace H := Option.bind_eq_some_iff.mp H
  obtain ⟨t671, A50, H⟩ := H
  replace H : (some (3, false, true, wrap64 ((l0_1.length : Int) + t671), (-1))) = some (r1, r2, r3, r4, r5) := H
  have A5 := Aside0.mk A50
  clear A50
  simp only [Option.some.injEq, Prod.mk.injEq] at H
  obtain ⟨rfl, rfl, rfl, rfl, rfl⟩ := H
  go_enter Try.func53, Try.ntmps53
  try go_wp2_with (first | ((with_reducible refine gate_dst (N := 1) rfl ?_); refine box_event ?hg (N := 1) ?hd (cs := #[.slice A0_0 l0_0.length c0_0, .slice A0_1 l0_1.length c0_1]) (t := 27) ?hr ?_; (case hd => rfl); (case hg => rfl); (case hr => first | (go_simp; done) | (go_simp; rfl)); intro gb667 hg w6 hbox hb; have n0_ := Aside0.mk (below_step (by repeat (first | (with_reducible first | exact HB.out | apply below_alloc | apply pw_below_drewN | apply below_drew1) | exact HB.out)) hb); have n1_ := Aside0.mk (hbox); have n2_ := Aside0.mk ((by rw [hg]; exact (below_size (by repeat (first | (with_reducible first | exact HB.out | apply below_alloc | apply pw_below_drewN | apply below_drew1) | exact HB.out))) : w.heap.size ≤ gb667)); have n3_ := Aside0.mk ((by rw [hg]; exact (below_size (by repeat (first | (with_reducible first | exact HB.out | apply below_alloc | apply pw_below_drewN | apply below_drew1) | exact HB.out))) : w.heap.size ≤ gb667)); clear HB; have HB := n0_; have BK667 := n1_; have GW667 := n2_; have GE667 := n3_; clear n0_ n1_ n2_ n3_; clear hb hbox hg) | ((with_reducible refine gate_dst (N := 2) rfl ?_); refine box_event ?hg (N := 2) ?hd (cs := #[.int .i64 0, .bool false, .bool false, .int .i64 0, .int .i64 0]) (t := 44) ?hr ?_; (case hd => rfl); (case hg => rfl); (case hr => first | (go_simp; done) | (go_simp; rfl)); intro gb668 hg w7 hbox hb; have n0_ := Aside0.mk (blk_below (g := gb667) (o := .cells #[.slice A0_0 l0_0.length c0_0, .slice A0_1 l0_1.length c0_1] 27 (0, 0)) (by (with_reducible repeat (first | refine blk_drewN ?_ _ | refine blk_drew ?_ | refine blk_alloc ?_ _)); exact BK667.out) hb); have n1_ := Aside0.mk (below_step (by repeat (first | (with_reducible first | exact HB.out | apply below_alloc | apply pw_below_drewN | apply below_drew1 | refine below_set ?_ GE667.out) | exact HB.out)) hb); have n2_ := Aside0.mk (hbox); have n3_ := Aside0.mk ((by rw [hg]; exact (below_size (by repeat (first | (with_reducible first | exact HB.out | apply below_alloc | apply pw_below_drewN | apply below_drew1 | refine below_set ?_ GE667.out) | exact HB.out))) : w.heap.size ≤ gb668)); have n4_ := Aside0.mk ((by rw [hg]; exact (below_size (by repeat (first | (with_reducible first | exact HB.out | apply below_alloc | apply pw_below_drewN | apply below_drew1 | refine below_set ?_ GE667.out) | exact HB.out))) : w.heap.size ≤ gb668)); have n5_ := Aside0.mk ((by rw [hg]; exact Nat.ne_of_lt (blk_lt (g := gb667) (o := .cells #[.slice A0_0 l0_0.length c0_0, .slice A0_1 l0_1.length c0_1] 27 (0, 0)) (by (with_reducible repeat (first | refine blk_drewN ?_ _ | refine blk_drew ?_ | refine blk_alloc ?_ _)); exact BK667.out)) : gb667 ≠ gb668)); have n6_ := Aside0.mk ((by rw [hg]; exact Nat.ne_of_gt (blk_lt (g := gb667) (o := .cells #[.slice A0_0 l0_0.length c0_0, .slice A0_1 l0_1.length c0_1] 27 (0, 0)) (by (with_reducible repeat (first | refine blk_drewN ?_ _ | refine blk_drew ?_ | refine blk_alloc ?_ _)); exact BK667.out)) : gb668 ≠ gb667)); clear BK667; clear HB; have BK667 := n0_; have HB := n1_; have BK668 := n2_; have GW668 := n3_; have GE668 := n4_; have NB667_668 := n5_; have NB668_667 := n6_; clear n0_ n1_ n2_ n3_ n4_ n5_ n6_; clear hb hbox hg; have hnb8 := NB667_668.out; have hnc8 := NB668_667.out; have hcz9_0 : w7.cell? ⟨gb667, 0, none⟩ = some (.slice A0_0 l0_0.length c0_0) := (blk_cell BK667.out 0).trans rfl; have hcz9_1 : w7.cell? ⟨gb667, 1, none⟩ = some (.slice A0_1 l0_1.length c0_1) := (blk_cell BK667.out 1).trans rfl; have hfz9_0 := blk_frozen BK667.out 0; have hfz9_1 := blk_frozen BK667.out 1) | ((with_reducible refine gate_callee (f := 49) rfl ?_); refine goesL_ (some 4) rfl rfl Try.func49 (by kernel_rfl) rfl #[.agg #[.slice A0_0 l0_0.length c0_0, .slice A0_1 l0_1.length c0_1]] rfl (by (try simp only [List.map_toArray, List.map_cons, List.map_nil]); first | done | rfl | (simp only [List.length_drop, List.length_take]; rfl)) ?_; (with_reducible refine (leader_Fit.calls k _ _ l0_0 _ _ l0_1 true _ ?side1 ?side2 ?side3 ?side4 A2.out).mono ?_); (case side1 => repeat (first | exact (Kd.C_below HR0_0.out HB.out) | (with_reducible refine Kd.C_alloc ?_ _) | (with_reducible refine Kd.C_drewN ?_ _) | (with_reducible refine Kd.C_drew ?_))); (case side2 => exact HC0_0.out); (case side3 => repeat (first | exact (Kd.C_below HR0_1.out HB.out) | (with_reducible refine Kd.C_alloc ?_ _) | (with_reducible refine Kd.C_drewN ?_ _) | (with_reducible refine Kd.C_drew ?_))); (case side4 => exact HC0_1.out); rintro e w10 ⟨rfl, hb⟩; refine ⟨_, rfl, ?_⟩; have n0_ := Aside0.mk (blk_below (g := gb667) (o := .cells #[.slice A0_0 l0_0.length c0_0, .slice A0_1 l0_1.length c0_1] 27 (0, 0)) (by (with_reducible repeat (first | refine blk_drewN ?_ _ | refine blk_drew ?_ | refine blk_alloc ?_ _)); exact BK667.out) hb); have n1_ := Aside0.mk (blk_below (g := gb668) (o := .cells #[.int .i64 0, .bool false, .bool false, .int .i64 0, .int .i64 0] 44 (0, 0)) (by (with_reducible repeat (first | refine blk_drewN ?_ _ | refine blk_drew ?_ | refine blk_alloc ?_ _)); exact BK668.out) hb); have n2_ := Aside0.mk (below_step (by repeat (first | (with_reducible first | exact HB.out | apply below_alloc | apply pw_below_drewN | apply below_drew1 | refine below_set ?_ GE667.out | refine below_set ?_ GE668.out) | exact HB.out)) hb); clear BK667; clear BK668; clear HB; have BK667 := n0_; have BK668 := n1_; have HB := n2_; clear n0_ n1_ n2_; (try clear hb); (try clear hb2); (try clear hk); (try clear hi)))
  have n0_ := Aside0.mk (blk_drew BK667.out)
  have n1_ := Aside0.mk (blk_drew BK668.out)
  have n2_ := Aside0.mk (below_drew1 HB.out)
  clear BK667
  clear BK668
  clear HB
  have BK667 := n0_
  have BK668 := n1_
  have HB := n2_
  clear n0_ n1_ n2_
  refine start_ (n := 10) (S := fun w' => w'.cell? ⟨gb667, 0, none⟩ = some (.slice A0_0 l0_0.length c0_0) ∧ w'.cell? ⟨gb667, 1, none⟩ = some (.slice A0_1 l0_1.length c0_1)) (ds := []) #[false, false, false, false, false, false, false, false, false, false] (by kernel_rfl) rfl rfl ⟨(blk_cell BK667.out 0).trans rfl, (blk_cell BK667.out 1).trans rfl⟩ (fun hHeld => ?_); refine with_tabW leader_Claim.tab3 leader_Claim.bits3 (fun HT_ HW_ => ?_)
  generalize w10.drew = w11 at BK667 BK668 HB hHeld ⊢
  refine pure_ (i := 0) (N := some 7) (v := ?_) (a' := ?_) #[true, false, false, false, false, false, false, false, false, false] rfl rfl (any_of HT_.out (by kernel_rfl)) (fun _ _ _ h => h) (Or.inl ⟨by rfl, ?_⟩) ?_ ?_
  rotate_left
  ·
   intro w'
   go_simp
   with_reducible rfl
  rotate_left
  ·
   simp only [Act.put, List.setIfInBounds_toArray, List.set_cons_zero, List.set_cons_succ, i64_w, i32_w]
   rfl
  refine take_ (i := 1) (N := some 8) (v := ?_) (a' := ?_) #[true, true, false, false, false, false, false, false, false, false] rfl rfl (take_ofW HT_.out HW_.out (by kernel_rfl)) (fun _ _ _ h => h) (Or.inl ⟨by rfl, ?_⟩) hHeld ?_ ?_
  rotate_left
  ·
   rintro w' ⟨s0, s1⟩
   go_simp
   with_reducible rfl
  rotate_left
  ·
   simp only [Act.put, List.setIfInBounds_toArray, List.set_cons_zero, List.set_cons_succ, i64_w, i32_w]
   rfl
  refine pure_ (i := 2) (N := some 9) (v := ?_) (a' := ?_) #[true, true, true, false, false, false, false, false, false, false] rfl rfl (any_of HT_.out (by kernel_rfl)) (fun _ _ _ h => h) (Or.inl ⟨by rfl, ?_⟩) ?_ ?_
  rotate_left
  ·
   intro w'
   go_simp
   with_reducible rfl
  rotate_left
  ·
   simp only [Act.put, List.setIfInBounds_toArray, List.set_cons_zero, List.set_cons_succ, i64_w, i32_w]
   rfl
  refine take_ (i := 3) (N := some 10) (v := ?_) (a' := ?_) #[true, true, true, true, false, false, false, false, false, false] rfl rfl (take_ofW HT_.out HW_.out (by kernel_rfl)) (fun _ _ _ h => h) (Or.inl ⟨by rfl, ?_⟩) hHeld ?_ ?_
  rotate_left
  ·
   rintro w' ⟨s0, s1⟩
   go_simp
   with_reducible rfl
  rotate_left
  ·
   simp only [Act.put, List.setIfInBounds_toArray, List.set_cons_zero, List.set_cons_succ, i64_w, i32_w]
   rfl
  refine take_ (i := 4) (N := some 11) (v := ?_) (a' := ?_) #[true, true, true, true, true, false, false, false, false, false] rfl rfl (take_ofW HT_.out HW_.out (by kernel_rfl)) (fun _ _ _ h => h) (Or.inl ⟨by rfl, ?_⟩) hHeld ?_ ?_
  rotate_left
  ·
   rintro w' ⟨s0, s1⟩
   go_simp
   with_reducible rfl
  rotate_left
  ·
   simp only [Act.put, List.setIfInBounds_toArray, List.set_cons_zero, List.set_cons_succ, i64_w, i32_w]
   rfl
  refine one_ (i := 5) (N := some 12) #[true, true, true, true, true, true, false, false, false, false] rfl rfl (one_of HT_.out (by kernel_rfl)) (by decide) (fun K hK => ?_)
  refine goes_ Try.func99 (by kernel_rfl) rfl #[.agg #[.slice A0_0 l0_0.length c0_0, .slice A0_1 l0_1.length c0_1]] (by rfl) rfl rfl (by (try simp only [List.map_toArray, List.map_cons, List.map_nil]); first | done | rfl | (simp only [List.length_drop, List.length_take]; rfl)) ?_
  with_reducible refine (leader_least.calls k _ _ l0_0 _ _ l0_1 t670 _ ?side1 ?side2 ?side3 ?side4 A4.out).mono ?_
  (case side1 => repeat (first | exact (Kd.C_below HR0_0.out HB.out) | (with_reducible refine Kd.C_alloc ?_ _) | (with_reducible refine Kd.C_drewN ?_ _) | (with_reducible refine Kd.C_drew ?_)))
  (case side2 => exact HC0_0.out)
  (case side3 => repeat (first | exact (Kd.C_below HR0_1.out HB.out) | (with_reducible refine Kd.C_alloc ?_ _) | (with_reducible refine Kd.C_drewN ?_ _) | (with_reducible refine Kd.C_drew ?_)))
  (case side4 => exact HC0_1.out)
  rintro e w12 ⟨rfl, hb⟩
  refine ⟨_, rfl, ?_⟩
  have n0_ := Aside0.mk (blk_below (g := gb667) (o := .cells #[.slice A0_0 l0_0.length c0_0, .slice A0_1 l0_1.length c0_1] 27 (0, 0)) (by (with_reducible repeat (first | refine blk_drewN ?_ _ | refine blk_drew ?_ | refine blk_alloc ?_ _)); exact BK667.out) hb)
  have n1_ := Aside0.mk (blk_below (g := gb668) (o := .cells #[.int .i64 0, .bool false, .bool false, .int .i64 0, .int .i64 0] 44 (0, 0)) (by (with_reducible repeat (first | refine blk_drewN ?_ _ | refine blk_drew ?_ | refine blk_alloc ?_ _)); exact BK668.out) hb)
  have n2_ := Aside0.mk (below_step (by repeat (first | (with_reducible first | exact HB.out | apply below_alloc | apply pw_below_drewN | apply below_drew1 | refine below_set ?_ GE667.out | refine below_set ?_ GE668.out) | exact HB.out)) hb)
  clear BK667
  clear BK668
  clear HB
  have BK667 := n0_
  have BK668 := n1_
  have HB := n2_
  clear n0_ n1_ n2_
  (try clear hb)
  (try clear hb2)
  (try clear hk)
  (try clear hi)
  refine hK.out _ _ ⟨(blk_cell BK667.out 0).trans rfl, (blk_cell BK667.out 1).trans rfl⟩ (fun hHeld => ?_)
  clear hK K
  refine norm_ (a' := ?_) ?_ ?_
  rotate_left
  ·
   show Act.put _ (some 12) _ = _
   simp only [Act.put, List.setIfInBounds_toArray, List.set_cons_zero, List.set_cons_succ, i64_w, i32_w]
   rfl
  refine one_ (i := 6) (N := some 13) #[true, true, true, true, true, true, true, false, false, false] rfl rfl (one_of HT_.out (by kernel_rfl)) (by decide) (fun K hK => ?_)
  refine goes_ Try.func94 (by kernel_rfl) rfl #[.agg #[.slice A0_0 l0_0.length c0_0, .slice A0_1 l0_1.length c0_1], .int .i64 t670] (by rfl) rfl rfl (by (try simp only [List.map_toArray, List.map_cons, List.map_nil]); first | done | rfl | (simp only [List.length_drop, List.length_take]; rfl)) ?_
  with_reducible refine (graph_Eccentricity.calls k _ _ l0_0 _ _ l0_1 t670 t671 _ ?side1 ?side2 ?side3 ?side4 A5.out).mono ?_
  (case side1 => repeat (first | exact (Kd.C_below HR0_0.out HB.out) | (with_reducible refine Kd.C_alloc ?_ _) | (with_reducible refine Kd.C_drewN ?_ _) | (with_reducible refine Kd.C_drew ?_)))
  (case side2 => exact HC0_0.out)
  (case side3 => repeat (first | exact (Kd.C_below HR0_1.out HB.out) | (with_reducible refine Kd.C_alloc ?_ _) | (with_reducible refine Kd.C_drewN ?_ _) | (with_reducible refine Kd.C_drew ?_)))
  (case side4 => exact HC0_1.out)
  rintro e w13 ⟨rfl, hb⟩
  refine ⟨_, rfl, ?_⟩
  have n0_ := Aside0.mk (blk_below (g := gb667) (o := .cells #[.slice A0_0 l0_0.length c0_0, .slice A0_1 l0_1.length c0_1] 27 (0, 0)) (by (with_reducible repeat (first | refine blk_drewN ?_ _ | refine blk_drew ?_ | refine blk_alloc ?_ _)); exact BK667.out) hb)
  have n1_ := Aside0.mk (blk_below (g := gb668) (o := .cells #[.int .i64 0, .bool false, .bool false, .int .i64 0, .int .i64 0] 44 (0, 0)) (by (with_reducible repeat (first | refine blk_drewN ?_ _ | refine blk_drew ?_ | refine blk_alloc ?_ _)); exact BK668.out) hb)
  have n2_ := Aside0.mk (below_step (by repeat (first | (with_reducible first | exact HB.out | apply below_alloc | apply pw_below_drewN | apply below_drew1 | refine below_set ?_ GE667.out | refine below_set ?_ GE668.out) | exact HB.out)) hb)
  clear BK667
  clear BK668
  clear HB
  have BK667 := n0_
  have BK668 := n1_
  have HB := n2_
  clear n0_ n1_ n2_
  (try clear hb)
  (try clear hb2)
  (try clear hk)
  (try clear hi)
  refine hK.out _ _ ⟨(blk_cell BK667.out 0).trans rfl, (blk_cell BK667.out 1).trans rfl⟩ (fun hHeld => ?_)
  clear hK K
  refine norm_ (a' := ?_) ?_ ?_
  rotate_left
  ·
   show Act.put _ (some 13) _ = _
   simp only [Act.put, List.setIfInBounds_toArray, List.set_cons_zero, List.set_cons_succ, i64_w, i32_w]
   rfl
  refine pure_ (i := 7) (N := some 14) (v := ?_) (a' := ?_) #[true, true, true, true, true, true, true, true, false, false] rfl rfl (any_of HT_.out (by kernel_rfl)) (fun _ _ _ h => h) (Or.inl ⟨by rfl, ?_⟩) ?_ ?_
  rotate_left
  ·
   intro w'
   go_simp
   with_reducible rfl
  rotate_left
  ·
   simp only [Act.put, List.setIfInBounds_toArray, List.set_cons_zero, List.set_cons_succ, i64_w, i32_w]
   rfl
  refine pure_ (i := 8) (N := some 15) (v := ?_) (a' := ?_) #[true, true, true, true, true, true, true, true, true, false] rfl rfl (any_of HT_.out (by kernel_rfl)) (fun _ _ _ h => h) (Or.inl ⟨by rfl, ?_⟩) ?_ ?_
  rotate_left
  ·
   intro w'
   go_simp
   with_reducible rfl
  rotate_left
  ·
   simp only [Act.put, List.setIfInBounds_toArray, List.set_cons_zero, List.set_cons_succ, i64_w, i32_w]
   rfl
  refine one_ (i := 9) (N := none) #[true, true, true, true, true, true, true, true, true, true] rfl rfl (one_of HT_.out (by kernel_rfl)) (by decide) (fun K hK => ?_)
  have hs14 : w13.cell? ⟨gb668, 0, none⟩ = some (.int .i64 0) := (blk_cell BK668.out 0).trans rfl
  have hfs14 := blk_frozen BK668.out 0
  have hns14_0 := NB667_668.out
  have hms14_0 := NB668_667.out
  have hs15 : w13.cell? ⟨gb668, 1, none⟩ = some (.bool false) := (blk_cell BK668.out 1).trans rfl
  have hfs15 := blk_frozen BK668.out 1
  have hns15_0 := NB667_668.out
  have hms15_0 := NB668_667.out
  have hs16 : w13.cell? ⟨gb668, 2, none⟩ = some (.bool false) := (blk_cell BK668.out 2).trans rfl
  have hfs16 := blk_frozen BK668.out 2
  have hns16_0 := NB667_668.out
  have hms16_0 := NB668_667.out
  have hs17 : w13.cell? ⟨gb668, 3, none⟩ = some (.int .i64 0) := (blk_cell BK668.out 3).trans rfl
  have hfs17 := blk_frozen BK668.out 3
  have hns17_0 := NB667_668.out
  have hms17_0 := NB668_667.out
  have hs18 : w13.cell? ⟨gb668, 4, none⟩ = some (.int .i64 0) := (blk_cell BK668.out 4).trans rfl
  have hfs18 := blk_frozen BK668.out 4
  have hns18_0 := NB667_668.out
  have hms18_0 := NB668_667.out
  refine skip_ (w1 := ?_) (by rfl) rfl ?_ ?_
  rotate_left
  ·
   go_simp
   rfl
  refine hK.out _ _ ⟨((cell_far (p := ⟨gb668, _, none⟩) NB667_668.out _).trans (((cell_far (p := ⟨gb668, _, none⟩) NB667_668.out _).trans (((cell_far (p := ⟨gb668, _, none⟩) NB667_668.out _).trans (((cell_far (p := ⟨gb668, _, none⟩) NB667_668.out _).trans (((cell_far (p := ⟨gb668, _, none⟩) NB667_668.out _).trans (hHeld.1)))))))))), ((cell_far (p := ⟨gb668, _, none⟩) NB667_668.out _).trans (((cell_far (p := ⟨gb668, _, none⟩) NB667_668.out _).trans (((cell_far (p := ⟨gb668, _, none⟩) NB667_668.out _).trans (((cell_far (p := ⟨gb668, _, none⟩) NB667_668.out _).trans (((cell_far (p := ⟨gb668, _, none⟩) NB667_668.out _).trans (hHeld.2))))))))))⟩ (fun hHeld => ?_)
  clear hK K
  refine done_ (done_of HT_.out (by kernel_rfl)) ?_
  try go_wp2
  refine bodyPost_ret (results_cell_row rfl _ _ gb668 44 #[.int .i64 3, .bool false, .bool true, .int .i64 (wrap64 ((l0_1.length : Int) + t671)), .int .i64 (-1)] (0, 0) _ rfl (by (with_reducible repeat (first | refine blk_drewN ?_ _ | refine blk_drew ?_ | refine blk_alloc ?_ _)); refine blk_put (cs := #[.int .i64 3, .bool false, .bool true, .int .i64 (wrap64 ((l0_1.length : Int) + t671)), .int .i64 0]) ?_ 4 _ rfl; (with_reducible repeat (first | refine blk_drewN ?_ _ | refine blk_drew ?_ | refine blk_alloc ?_ _)); refine blk_put (cs := #[.int .i64 3, .bool false, .bool true, .int .i64 0, .int .i64 0]) ?_ 3 _ rfl; (with_reducible repeat (first | refine blk_drewN ?_ _ | refine blk_drew ?_ | refine blk_alloc ?_ _)); refine blk_put (cs := #[.int .i64 3, .bool false, .bool false, .int .i64 0, .int .i64 0]) ?_ 2 _ rfl; (with_reducible repeat (first | refine blk_drewN ?_ _ | refine blk_drew ?_ | refine blk_alloc ?_ _)); refine blk_put (cs := #[.int .i64 3, .bool false, .bool false, .int .i64 0, .int .i64 0]) ?_ 1 _ rfl; (with_reducible repeat (first | refine blk_drewN ?_ _ | refine blk_drew ?_ | refine blk_alloc ?_ _)); refine blk_put (cs := #[.int .i64 0, .bool false, .bool false, .int .i64 0, .int .i64 0]) ?_ 0 _ rfl; (with_reducible repeat (first | refine blk_drewN ?_ _ | refine blk_drew ?_ | refine blk_alloc ?_ _)); exact BK668.out) Try.underlying44 rfl (by kernel_rfl)) rfl ?_
  exact ⟨by first | rfl | (simp [errW_none, errW_some] <;> rfl) | (simp [*, errW_none, errW_some] <;> rfl), by repeat (first | (with_reducible first | exact HB.out | apply below_alloc | apply pw_below_drewN | apply below_drew1 | refine below_set ?_ GE667.out | refine below_set ?_ GE668.out) | exact HB.out)⟩
 ·
  replace c3 := Bool.eq_false_iff.mpr c3
  subst c3
  have H1 : (some (0, false, false, 0, 0)) = some (r1, r2, r3, r4, r5) := by rw [if_neg (show ¬ (false = true) by decide)] at H; exact H
  clear H
  have H := H1
  clear H1
  simp only [Option.some.injEq, Prod.mk.injEq] at H
  obtain ⟨rfl, rfl, rfl, rfl, rfl⟩ := H
  go_enter Try.func53, Try.ntmps53
  go_wp2_with (first | ((with_reducible refine gate_dst (N := 1) rfl ?_); refine box_event ?hg (N := 1) ?hd (cs := #[.slice A0_0 l0_0.length c0_0, .slice A0_1 l0_1.length c0_1]) (t := 27) ?hr ?_; (case hd => rfl); (case hg => rfl); (case hr => first | (go_simp; done) | (go_simp; rfl)); intro gb667 hg w19 hbox hb; have n0_ := Aside0.mk (below_step (by repeat (first | (with_reducible first | exact HB.out | apply below_alloc | apply pw_below_drewN | apply below_drew1) | exact HB.out)) hb); have n1_ := Aside0.mk (hbox); have n2_ := Aside0.mk ((by rw [hg]; exact (below_size (by repeat (first | (with_reducible first | exact HB.out | apply below_alloc | apply pw_below_drewN | apply below_drew1) | exact HB.out))) : w.heap.size ≤ gb667)); have n3_ := Aside0.mk ((by rw [hg]; exact (below_size (by repeat (first | (with_reducible first | exact HB.out | apply below_alloc | apply pw_below_drewN | apply below_drew1) | exact HB.out))) : w.heap.size ≤ gb667)); clear HB; have HB := n0_; have BK667 := n1_; have GW667 := n2_; have GE667 := n3_; clear n0_ n1_ n2_ n3_; clear hb hbox hg) | ((with_reducible refine gate_dst (N := 2) rfl ?_); refine box_event ?hg (N := 2) ?hd (cs := #[.int .i64 0, .bool false, .bool false, .int .i64 0, .int .i64 0]) (t := 44) ?hr ?_; (case hd => rfl); (case hg => rfl); (case hr => first | (go_simp; done) | (go_simp; rfl)); intro gb668 hg w20 hbox hb; have n0_ := Aside0.mk (blk_below (g := gb667) (o := .cells #[.slice A0_0 l0_0.length c0_0, .slice A0_1 l0_1.length c0_1] 27 (0, 0)) (by (with_reducible repeat (first | refine blk_drewN ?_ _ | refine blk_drew ?_ | refine blk_alloc ?_ _)); exact BK667.out) hb); have n1_ := Aside0.mk (below_step (by repeat (first | (with_reducible first | exact HB.out | apply below_alloc | apply pw_below_drewN | apply below_drew1 | refine below_set ?_ GE667.out) | exact HB.out)) hb); have n2_ := Aside0.mk (hbox); have n3_ := Aside0.mk ((by rw [hg]; exact (below_size (by repeat (first | (with_reducible first | exact HB.out | apply below_alloc | apply pw_below_drewN | apply below_drew1 | refine below_set ?_ GE667.out) | exact HB.out))) : w.heap.size ≤ gb668)); have n4_ := Aside0.mk ((by rw [hg]; exact (below_size (by repeat (first | (with_reducible first | exact HB.out | apply below_alloc | apply pw_below_drewN | apply below_drew1 | refine below_set ?_ GE667.out) | exact HB.out))) : w.heap.size ≤ gb668)); have n5_ := Aside0.mk ((by rw [hg]; exact Nat.ne_of_lt (blk_lt (g := gb667) (o := .cells #[.slice A0_0 l0_0.length c0_0, .slice A0_1 l0_1.length c0_1] 27 (0, 0)) (by (with_reducible repeat (first | refine blk_drewN ?_ _ | refine blk_drew ?_ | refine blk_alloc ?_ _)); exact BK667.out)) : gb667 ≠ gb668)); have n6_ := Aside0.mk ((by rw [hg]; exact Nat.ne_of_gt (blk_lt (g := gb667) (o := .cells #[.slice A0_0 l0_0.length c0_0, .slice A0_1 l0_1.length c0_1] 27 (0, 0)) (by (with_reducible repeat (first | refine blk_drewN ?_ _ | refine blk_drew ?_ | refine blk_alloc ?_ _)); exact BK667.out)) : gb668 ≠ gb667)); clear BK667; clear HB; have BK667 := n0_; have HB := n1_; have BK668 := n2_; have GW668 := n3_; have GE668 := n4_; have NB667_668 := n5_; have NB668_667 := n6_; clear n0_ n1_ n2_ n3_ n4_ n5_ n6_; clear hb hbox hg; have hnb21 := NB667_668.out; have hnc21 := NB668_667.out; have hcz22_0 : w20.cell? ⟨gb667, 0, none⟩ = some (.slice A0_0 l0_0.length c0_0) := (blk_cell BK667.out 0).trans rfl; have hcz22_1 : w20.cell? ⟨gb667, 1, none⟩ = some (.slice A0_1 l0_1.length c0_1) := (blk_cell BK667.out 1).trans rfl; have hfz22_0 := blk_frozen BK667.out 0; have hfz22_1 := blk_frozen BK667.out 1) | ((with_reducible refine gate_callee (f := 49) rfl ?_); refine goesL_ (some 4) rfl rfl Try.func49 (by kernel_rfl) rfl #[.agg #[.slice A0_0 l0_0.length c0_0, .slice A0_1 l0_1.length c0_1]] rfl (by (try simp only [List.map_toArray, List.map_cons, List.map_nil]); first | done | rfl | (simp only [List.length_drop, List.length_take]; rfl)) ?_; (with_reducible refine (leader_Fit.calls k _ _ l0_0 _ _ l0_1 false _ ?side1 ?side2 ?side3 ?side4 A2.out).mono ?_); (case side1 => repeat (first | exact (Kd.C_below HR0_0.out HB.out) | (with_reducible refine Kd.C_alloc ?_ _) | (with_reducible refine Kd.C_drewN ?_ _) | (with_reducible refine Kd.C_drew ?_))); (case side2 => exact HC0_0.out); (case side3 => repeat (first | exact (Kd.C_below HR0_1.out HB.out) | (with_reducible refine Kd.C_alloc ?_ _) | (with_reducible refine Kd.C_drewN ?_ _) | (with_reducible refine Kd.C_drew ?_))); (case side4 => exact HC0_1.out); rintro e w23 ⟨rfl, hb⟩; refine ⟨_, rfl, ?_⟩; have n0_ := Aside0.mk (blk_below (g := gb667) (o := .cells #[.slice A0_0 l0_0.length c0_0, .slice A0_1 l0_1.length c0_1] 27 (0, 0)) (by (with_reducible repeat (first | refine blk_drewN ?_ _ | refine blk_drew ?_ | refine blk_alloc ?_ _)); exact BK667.out) hb); have n1_ := Aside0.mk (blk_below (g := gb668) (o := .cells #[.int .i64 0, .bool false, .bool false, .int .i64 0, .int .i64 0] 44 (0, 0)) (by (with_reducible repeat (first | refine blk_drewN ?_ _ | refine blk_drew ?_ | refine blk_alloc ?_ _)); exact BK668.out) hb); have n2_ := Aside0.mk (below_step (by repeat (first | (with_reducible first | exact HB.out | apply below_alloc | apply pw_below_drewN | apply below_drew1 | refine below_set ?_ GE667.out | refine below_set ?_ GE668.out) | exact HB.out)) hb); clear BK667; clear BK668; clear HB; have BK667 := n0_; have BK668 := n1_; have HB := n2_; clear n0_ n1_ n2_; (try clear hb); (try clear hb2); (try clear hk); (try clear hi); have hcz24_0 : w23.cell? ⟨gb668, 0, none⟩ = some (.int .i64 0) := (blk_cell BK668.out 0).trans rfl; have hcz24_1 : w23.cell? ⟨gb668, 1, none⟩ = some (.bool false) := (blk_cell BK668.out 1).trans rfl; have hcz24_2 : w23.cell? ⟨gb668, 2, none⟩ = some (.bool false) := (blk_cell BK668.out 2).trans rfl; have hcz24_3 : w23.cell? ⟨gb668, 3, none⟩ = some (.int .i64 0) := (blk_cell BK668.out 3).trans rfl; have hcz24_4 : w23.cell? ⟨gb668, 4, none⟩ = some (.int .i64 0) := (blk_cell BK668.out 4).trans rfl; have hfz24_0 := blk_frozen BK668.out 0; have hfz24_1 := blk_frozen BK668.out 1; have hfz24_2 := blk_frozen BK668.out 2; have hfz24_3 := blk_frozen BK668.out 3; have hfz24_4 := blk_frozen BK668.out 4))
  refine bodyPost_ret (results_cell_row rfl _ _ gb668 44 #[.int .i64 0, .bool false, .bool false, .int .i64 0, .int .i64 0] (0, 0) _ rfl (by (with_reducible repeat (first | refine blk_drewN ?_ _ | refine blk_drew ?_ | refine blk_alloc ?_ _)); refine blk_put (cs := #[.int .i64 0, .bool false, .bool false, .int .i64 0, .int .i64 0]) ?_ 4 _ rfl; (with_reducible repeat (first | refine blk_drewN ?_ _ | refine blk_drew ?_ | refine blk_alloc ?_ _)); refine blk_put (cs := #[.int .i64 0, .bool false, .bool false, .int .i64 0, .int .i64 0]) ?_ 3 _ rfl; (with_reducible repeat (first | refine blk_drewN ?_ _ | refine blk_drew ?_ | refine blk_alloc ?_ _)); refine blk_put (cs := #[.int .i64 0, .bool false, .bool false, .int .i64 0, .int .i64 0]) ?_ 2 _ rfl; (with_reducible repeat (first | refine blk_drewN ?_ _ | refine blk_drew ?_ | refine blk_alloc ?_ _)); refine blk_put (cs := #[.int .i64 0, .bool false, .bool false, .int .i64 0, .int .i64 0]) ?_ 1 _ rfl; (with_reducible repeat (first | refine blk_drewN ?_ _ | refine blk_drew ?_ | refine blk_alloc ?_ _)); refine blk_put (cs := #[.int .i64 0, .bool false, .bool false, .int .i64 0, .int .i64 0]) ?_ 0 _ rfl; (with_reducible repeat (first | refine blk_drewN ?_ _ | refine blk_drew ?_ | refine blk_alloc ?_ _)); exact BK668.out) Try.underlying44 rfl (by kernel_rfl)) rfl ?_
  exact ⟨by first | rfl | (simp [errW_none, errW_some] <;> rfl) | (simp [*, errW_none, errW_some] <;> rfl), by repeat (first | (with_reducible first | exact HB.out | apply below_alloc | apply pw_below_drewN | apply below_drew1 | refine below_set ?_ GE667.out | refine below_set ?_ GE668.out) | exact HB.out)⟩
end Go.Proofs.YthapikakneikbaaG
namespace Go.Proofs.YthapikakneikbaaG
open Go.RowKit Go.Proofs.YthapikakneikbaaW.PrintWords Go.Proofs.YthapikakneikbaaW.PrintLast Go.Proofs.YthapikakneikbaaW.PrintMore
attribute [local go_sem] max2_int min2_int max_two min_two max_three min_three max_four min_four   -- for this text's walks alone
set_option linter.unusedVariables false
set_option linter.unusedSimpArgs false
def leader_Leader.f (k : Nat) (l0_0 : List Int) (l0_1 : List (List (S60))) (l1 : List (List Int)) : Option (Int) := (leader_Legit.f k l0_0 l0_1 l1).bind fun t673 => (if t673 = true then ((leader_least.f k l0_0 l0_1).bind fun t674 => (some t674)) else (some (-1)))
theorem leader_Leader.mono : ∀ a0 a1 a2 k, LeO (leader_Leader.f k a0 a1 a2) (leader_Leader.f (k + 1) a0 a1 a2) := by
 intro a0 a1 a2 k
 unfold leader_Leader.f
 repeat' first
   | (with_reducible exact leader_Legit.mono _ _ _ _)
   | (with_reducible exact leader_least.mono _ _ _)
   | (with_reducible exact LeO.refl _)
   | (with_reducible exact LeO.none _)
   | (with_reducible refine LeO.ite ?_ ?_)
   | (with_reducible refine LeO.bind ?_ (fun _ => ?_))
   | exact leader_Legit.mono _ _ _ _
   | exact leader_least.mono _ _ _
   | exact LeO.none _
   | refine LeO.ite ?_ ?_
   | refine LeO.bind ?_ (fun _ => ?_)
set_option maxHeartbeats 8000000 in
set_option maxRecDepth 100000 in
theorem leader_Leader.calls (k : Nat) (A0_0 : Option Addr) (c0_0 : Nat) (l0_0 : List Int) (A0_1 : Option Addr) (c0_1 : Nat) (l0_1 : List (List (S60))) (A1 : Option Addr) (c1 : Nat) (l1 : List (List Int)) (r : Int) (w : World) (hr0_0 : Kd.C (Kd.int .i64) w A0_0 l0_0.length l0_0) (hc0_0 : l0_0.length ≤ c0_0) (hr0_1 : Kd.C (Kd.slice 60 k60) w A0_1 l0_1.length l0_1) (hc0_1 : l0_1.length ≤ c0_1) (hr1 : Kd.C (Kd.slice 3 (Kd.int .i64)) w A1 l1.length l1) (hc1 : l1.length ≤ c1) (h : leader_Leader.f k l0_0 l0_1 l1 = some r) :
  Calls Try.prog 55 #[.agg #[.slice A0_0 l0_0.length c0_0, .slice A0_1 l0_1.length c0_1], .slice A1 l1.length c1] w fun e w' => e = .returned (.int .i64 r) ∧ Below w.heap.size w w' := by
 have hu27 := Try.underlying27
 have HR0_0 := Aside0.mk hr0_0
 have HC0_0 := Aside0.mk hc0_0
 clear hr0_0 hc0_0
 have HR0_1 := Aside0.mk hr0_1
 have HC0_1 := Aside0.mk hc0_1
 clear hr0_1 hc0_1
 have HR1 := Aside0.mk hr1
 have HC1 := Aside0.mk hc1
 clear hr1 hc1
 have HB := Aside0.mk (Below.refl w.heap.size w)
 have H : ((leader_Legit.f k l0_0 l0_1 l1).bind fun t673 => (if t673 = true then ((leader_least.f k l0_0 l0_1).bind fun t674 => (some t674)) else (some (-1)))) = some r := h
 clear h
 replace H := Option.bind_eq_some_iff.mp H
 obtain ⟨t673, A30, H⟩ := H
 replace H : (if t673 = true then ((leader_least.f k l0_0 l0_1).bind fun t674 => (some t674)) else (some (-1))) = some r := H
 have A3 := Aside0.mk A30
 clear A30
 by_cases c4 : t673 = true
 ·
  subst c4
  have H1 : ((leader_least.f k l0_0 l0_1).bind fun t674 => (some t674)) = some r := by rw [if_pos rfl] at H; exact H
  clear H
  have H := H1
  clear H1
  replace H := Option.bind_eq_some_iff.mp H
  obtain ⟨t674, A50, H⟩ := H
  replace H : (some t674) = some r := H
  have A5 := Aside0.mk A50
  clear A50
  obtain rfl := Option.some.inj H
  go_enter Try.func55, Try.ntmps55
  go_wp2_with (first | ((with_reducible refine gate_dst (N := 2) rfl ?_); refine box_event ?hg (N := 2) ?hd (cs := #[.slice A0_0 l0_0.length c0_0, .slice A0_1 l0_1.length c0_1]) (t := 27) ?hr ?_; (case hd => rfl); (case hg => rfl); (case hr => first | (go_simp; done) | (go_simp; rfl)); intro gb672 hg w6 hbox hb; have n0_ := Aside0.mk (below_step (by repeat (first | (with_reducible first | exact HB.out | apply below_alloc | apply pw_below_drewN | apply below_drew1) | exact HB.out)) hb); have n1_ := Aside0.mk (hbox); have n2_ := Aside0.mk ((by rw [hg]; exact (below_size (by repeat (first | (with_reducible first | exact HB.out | apply below_alloc | apply pw_below_drewN | apply below_drew1) | exact HB.out))) : w.heap.size ≤ gb672)); have n3_ := Aside0.mk ((by rw [hg]; exact (below_size (by repeat (first | (with_reducible first | exact HB.out | apply below_alloc | apply pw_below_drewN | apply below_drew1) | exact HB.out))) : w.heap.size ≤ gb672)); clear HB; have HB := n0_; have BK672 := n1_; have GW672 := n2_; have GE672 := n3_; clear n0_ n1_ n2_ n3_; clear hb hbox hg; have hcz7_0 : w6.cell? ⟨gb672, 0, none⟩ = some (.slice A0_0 l0_0.length c0_0) := (blk_cell BK672.out 0).trans rfl; have hcz7_1 : w6.cell? ⟨gb672, 1, none⟩ = some (.slice A0_1 l0_1.length c0_1) := (blk_cell BK672.out 1).trans rfl; have hfz7_0 := blk_frozen BK672.out 0; have hfz7_1 := blk_frozen BK672.out 1) | ((with_reducible refine gate_callee (f := 51) rfl ?_); refine goesL_ (some 7) rfl rfl Try.func51 (by kernel_rfl) rfl #[.agg #[.slice A0_0 l0_0.length c0_0, .slice A0_1 l0_1.length c0_1], .slice A1 l1.length c1] rfl (by (try simp only [List.map_toArray, List.map_cons, List.map_nil]); first | done | rfl | (simp only [List.length_drop, List.length_take]; rfl)) ?_; (with_reducible refine (leader_Legit.calls k _ _ l0_0 _ _ l0_1 _ _ l1 true _ ?side1 ?side2 ?side3 ?side4 ?side5 ?side6 A3.out).mono ?_); (case side1 => repeat (first | exact (Kd.C_below HR0_0.out HB.out) | (with_reducible refine Kd.C_alloc ?_ _) | (with_reducible refine Kd.C_drewN ?_ _) | (with_reducible refine Kd.C_drew ?_))); (case side2 => exact HC0_0.out); (case side3 => repeat (first | exact (Kd.C_below HR0_1.out HB.out) | (with_reducible refine Kd.C_alloc ?_ _) | (with_reducible refine Kd.C_drewN ?_ _) | (with_reducible refine Kd.C_drew ?_))); (case side4 => exact HC0_1.out); (case side5 => repeat (first | exact (Kd.C_below HR1.out HB.out) | (with_reducible refine Kd.C_alloc ?_ _) | (with_reducible refine Kd.C_drewN ?_ _) | (with_reducible refine Kd.C_drew ?_))); (case side6 => exact HC1.out); rintro e w8 ⟨rfl, hb⟩; refine ⟨_, rfl, ?_⟩; have n0_ := Aside0.mk (blk_below (g := gb672) (o := .cells #[.slice A0_0 l0_0.length c0_0, .slice A0_1 l0_1.length c0_1] 27 (0, 0)) (by (with_reducible repeat (first | refine blk_drewN ?_ _ | refine blk_drew ?_ | refine blk_alloc ?_ _)); exact BK672.out) hb); have n1_ := Aside0.mk (below_step (by repeat (first | (with_reducible first | exact HB.out | apply below_alloc | apply pw_below_drewN | apply below_drew1 | refine below_set ?_ GE672.out) | exact HB.out)) hb); clear BK672; clear HB; have BK672 := n0_; have HB := n1_; clear n0_ n1_; (try clear hb); (try clear hb2); (try clear hk); (try clear hi); have hcz9_0 : w8.cell? ⟨gb672, 0, none⟩ = some (.slice A0_0 l0_0.length c0_0) := (blk_cell BK672.out 0).trans rfl; have hcz9_1 : w8.cell? ⟨gb672, 1, none⟩ = some (.slice A0_1 l0_1.length c0_1) := (blk_cell BK672.out 1).trans rfl; have hfz9_0 := blk_frozen BK672.out 0; have hfz9_1 := blk_frozen BK672.out 1) | ((with_reducible refine gate_callee (f := 99) rfl ?_); refine goesL_ (some 10) rfl rfl Try.func99 (by kernel_rfl) rfl #[.agg #[.slice A0_0 l0_0.length c0_0, .slice A0_1 l0_1.length c0_1]] rfl (by (try simp only [List.map_toArray, List.map_cons, List.map_nil]); first | done | rfl | (simp only [List.length_drop, List.length_take]; rfl)) ?_; (with_reducible refine (leader_least.calls k _ _ l0_0 _ _ l0_1 t674 _ ?side1 ?side2 ?side3 ?side4 A5.out).mono ?_); (case side1 => repeat (first | exact (Kd.C_below HR0_0.out HB.out) | (with_reducible refine Kd.C_alloc ?_ _) | (with_reducible refine Kd.C_drewN ?_ _) | (with_reducible refine Kd.C_drew ?_))); (case side2 => exact HC0_0.out); (case side3 => repeat (first | exact (Kd.C_below HR0_1.out HB.out) | (with_reducible refine Kd.C_alloc ?_ _) | (with_reducible refine Kd.C_drewN ?_ _) | (with_reducible refine Kd.C_drew ?_))); (case side4 => exact HC0_1.out); rintro e w10 ⟨rfl, hb⟩; refine ⟨_, rfl, ?_⟩; have n0_ := Aside0.mk (blk_below (g := gb672) (o := .cells #[.slice A0_0 l0_0.length c0_0, .slice A0_1 l0_1.length c0_1] 27 (0, 0)) (by (with_reducible repeat (first | refine blk_drewN ?_ _ | refine blk_drew ?_ | refine blk_alloc ?_ _)); exact BK672.out) hb); have n1_ := Aside0.mk (below_step (by repeat (first | (with_reducible first | exact HB.out | apply below_alloc | apply pw_below_drewN | apply below_drew1 | refine below_set ?_ GE672.out) | exact HB.out)) hb); clear BK672; clear HB; have BK672 := n0_; have HB := n1_; clear n0_ n1_; (try clear hb); (try clear hb2); (try clear hk); (try clear hi)))
  go_ret
  exact ⟨by first | rfl | (simp [errW_none, errW_some] <;> rfl) | (simp [*, errW_none, errW_some] <;> rfl), by repeat (first | (with_reducible first | exact HB.out | apply below_alloc | apply pw_below_drewN | apply below_drew1 | refine below_set ?_ GE672.out) | exact HB.out)⟩
 ·
  replace c4 := Bool.eq_false_iff.mpr c4
  subst c4
  have H1 : (some (-1)) = some r := by rw [if_neg (show ¬ (false = true) by decide)] at H; exact H
  clear H
  have H := H1
  clear H1
  obtain rfl := Option.some.inj H
  go_enter Try.func55, Try.ntmps55
  go_wp2_with (first | ((with_reducible refine gate_dst (N := 2) rfl ?_); refine box_event ?hg (N := 2) ?hd (cs := #[.slice A0_0 l0_0.length c0_0, .slice A0_1 l0_1.length c0_1]) (t := 27) ?hr ?_; (case hd => rfl); (case hg => rfl); (case hr => first | (go_simp; done) | (go_simp; rfl)); intro gb672 hg w11 hbox hb; have n0_ := Aside0.mk (below_step (by repeat (first | (with_reducible first | exact HB.out | apply below_alloc | apply pw_below_drewN | apply below_drew1) | exact HB.out)) hb); have n1_ := Aside0.mk (hbox); have n2_ := Aside0.mk ((by rw [hg]; exact (below_size (by repeat (first | (with_reducible first | exact HB.out | apply below_alloc | apply pw_below_drewN | apply below_drew1) | exact HB.out))) : w.heap.size ≤ gb672)); have n3_ := Aside0.mk ((by rw [hg]; exact (below_size (by repeat (first | (with_reducible first | exact HB.out | apply below_alloc | apply pw_below_drewN | apply below_drew1) | exact HB.out))) : w.heap.size ≤ gb672)); clear HB; have HB := n0_; have BK672 := n1_; have GW672 := n2_; have GE672 := n3_; clear n0_ n1_ n2_ n3_; clear hb hbox hg; have hcz12_0 : w11.cell? ⟨gb672, 0, none⟩ = some (.slice A0_0 l0_0.length c0_0) := (blk_cell BK672.out 0).trans rfl; have hcz12_1 : w11.cell? ⟨gb672, 1, none⟩ = some (.slice A0_1 l0_1.length c0_1) := (blk_cell BK672.out 1).trans rfl; have hfz12_0 := blk_frozen BK672.out 0; have hfz12_1 := blk_frozen BK672.out 1) | ((with_reducible refine gate_callee (f := 51) rfl ?_); refine goesL_ (some 7) rfl rfl Try.func51 (by kernel_rfl) rfl #[.agg #[.slice A0_0 l0_0.length c0_0, .slice A0_1 l0_1.length c0_1], .slice A1 l1.length c1] rfl (by (try simp only [List.map_toArray, List.map_cons, List.map_nil]); first | done | rfl | (simp only [List.length_drop, List.length_take]; rfl)) ?_; (with_reducible refine (leader_Legit.calls k _ _ l0_0 _ _ l0_1 _ _ l1 false _ ?side1 ?side2 ?side3 ?side4 ?side5 ?side6 A3.out).mono ?_); (case side1 => repeat (first | exact (Kd.C_below HR0_0.out HB.out) | (with_reducible refine Kd.C_alloc ?_ _) | (with_reducible refine Kd.C_drewN ?_ _) | (with_reducible refine Kd.C_drew ?_))); (case side2 => exact HC0_0.out); (case side3 => repeat (first | exact (Kd.C_below HR0_1.out HB.out) | (with_reducible refine Kd.C_alloc ?_ _) | (with_reducible refine Kd.C_drewN ?_ _) | (with_reducible refine Kd.C_drew ?_))); (case side4 => exact HC0_1.out); (case side5 => repeat (first | exact (Kd.C_below HR1.out HB.out) | (with_reducible refine Kd.C_alloc ?_ _) | (with_reducible refine Kd.C_drewN ?_ _) | (with_reducible refine Kd.C_drew ?_))); (case side6 => exact HC1.out); rintro e w13 ⟨rfl, hb⟩; refine ⟨_, rfl, ?_⟩; have n0_ := Aside0.mk (blk_below (g := gb672) (o := .cells #[.slice A0_0 l0_0.length c0_0, .slice A0_1 l0_1.length c0_1] 27 (0, 0)) (by (with_reducible repeat (first | refine blk_drewN ?_ _ | refine blk_drew ?_ | refine blk_alloc ?_ _)); exact BK672.out) hb); have n1_ := Aside0.mk (below_step (by repeat (first | (with_reducible first | exact HB.out | apply below_alloc | apply pw_below_drewN | apply below_drew1 | refine below_set ?_ GE672.out) | exact HB.out)) hb); clear BK672; clear HB; have BK672 := n0_; have HB := n1_; clear n0_ n1_; (try clear hb); (try clear hb2); (try clear hk); (try clear hi)))
  go_ret
  exact ⟨by first | rfl | (simp [errW_none, errW_some] <;> rfl) | (simp [*, errW_none, errW_some] <;> rfl), by repeat (first | (with_reducible first | exact HB.out | apply below_alloc | apply pw_below_drewN | apply below_drew1 | refine below_set ?_ GE672.out) | exact HB.out)⟩
end Go.Proofs.YthapikakneikbaaG
namespace Go.Proofs.YthapikakneikbaaG
open Go.RowKit Go.Proofs.YthapikakneikbaaW.PrintWords Go.Proofs.YthapikakneikbaaW.PrintLast Go.Proofs.YthapikakneikbaaW.PrintMore
attribute [local go_sem] max2_int min2_int max_two min_two max_three min_three max_four min_four   -- for this text's walks alone
set_option linter.unusedVariables false
set_option linter.unusedSimpArgs false
def selfstabworld_Net_Tree.f (a0_0 : Int) (l0_1 : List Int) (l0_2 : List Int) (l0_3 : List Int) (a0_4 : Bool) (a0_5 : Bool) (a1 : Int) : Option (List Int × (List (List (S60)))) :=
 if 1 ≤ a1 ∧ a1 ≤ 24 then some ((Go.Proofs.Ythapikakneikbaa.Net.treeG ⟨a0_0, l0_1, l0_2, l0_3, a0_4, a0_5⟩ a1).ids, (Go.Proofs.Ythapikakneikbaa.Net.treeG ⟨a0_0, l0_1, l0_2, l0_3, a0_4, a0_5⟩ a1).ports.map (List.map ofL)) else none
theorem selfstabworld_Net_Tree.calls (a0_0 : Int) (A0_1 : Option Addr) (c0_1 : Nat) (l0_1 : List Int) (A0_2 : Option Addr) (c0_2 : Nat) (l0_2 : List Int) (A0_3 : Option Addr) (c0_3 : Nat) (l0_3 : List Int) (a0_4 : Bool) (a0_5 : Bool) (a1 : Int) (r1 : List Int) (r2 : List (List (S60))) (w : World) (hr0_1 : Kd.C (Kd.int .i64) w A0_1 l0_1.length l0_1) (hc0_1 : l0_1.length ≤ c0_1) (hr0_2 : Kd.C (Kd.int .i64) w A0_2 l0_2.length l0_2) (hc0_2 : l0_2.length ≤ c0_2) (hr0_3 : Kd.C (Kd.int .i64) w A0_3 l0_3.length l0_3) (hc0_3 : l0_3.length ≤ c0_3) (h : selfstabworld_Net_Tree.f a0_0 l0_1 l0_2 l0_3 a0_4 a0_5 a1 = some (r1, r2)) :
  Calls Try.prog 77 #[.agg #[.int .i64 a0_0, .slice A0_1 l0_1.length c0_1, .slice A0_2 l0_2.length c0_2, .slice A0_3 l0_3.length c0_3, .bool a0_4, .bool a0_5], .int .i64 a1] w fun e w' => ∃ v0_ v1_ : Value, e = .returned (.agg #[v0_, v1_]) ∧ Kd.R (Kd.int .i64) 3 w' w.heap.size (fun _ => True) v0_ r1 ∧ Kd.S (Kd.slice 60 k60) 52 w' w.heap.size (fun _ => True) v1_ r2 ∧ Below w.heap.size w w' := by
 unfold selfstabworld_Net_Tree.f at h
 by_cases hm : 1 ≤ a1 ∧ a1 ≤ 24
 ·
  rw [if_pos hm] at h
  injection h with h
  injection h with e1 e2
  have hb := Go.Proofs.Ythapikakneikbaa.Net.n_bd ⟨a0_0, l0_1, l0_2, l0_3, a0_4, a0_5⟩ hm.1
  refine (Go.Proofs.Ythapikakneikbaa.tree_n w ⟨a0_0, l0_1, l0_2, l0_3, a0_4, a0_5⟩ A0_1 A0_2 A0_3 c0_1 c0_2 c0_3 ⟨C_ints hr0_1, C_ints hr0_2, C_ints hr0_3⟩ a1 hm.1 hm.2).mono ?_
  rintro e w' ⟨A, c, P, vs, rfl, ⟨h1, h2, h3⟩, ho, hp, hbl⟩
  subst e1 e2
  exact ⟨_, _, rfl, own_ints h2 ho, own_ports h3 (by omega) hp, hbl⟩
 ·
  rw [if_neg hm] at h
  cases h
end Go.Proofs.YthapikakneikbaaG
namespace Go.Proofs.YthapikakneikbaaG
open Go.RowKit Go.Proofs.YthapikakneikbaaW.PrintWords Go.Proofs.YthapikakneikbaaW.PrintLast Go.Proofs.YthapikakneikbaaW.PrintMore
attribute [local go_sem] max2_int min2_int max_two min_two max_three min_three max_four min_four   -- for this text's walks alone
set_option linter.unusedVariables false
set_option linter.unusedSimpArgs false
def selfstablaw26_known.f (k : Nat)  : Option (Bool) := (selfstabworld_Net_Tree.f 3 (([0, 1] : List Int)) ([] : List Int) (([5, 9, 7] : List Int)) false false 3).bind fun bt681 => ((some (([(([5, 0, (-1)] : List Int)), (([5, 1, 0] : List Int)), (([5, 2, 0] : List Int))] : List (List Int)) : List (List Int))).bind fun y697 => ((leader_Legit.f k bt681.1 bt681.2 y697).bind fun t700 => (if t700 = true then ((leader_Leader.f k bt681.1 bt681.2 y697).bind fun t701 => (if t701 = 0 then ((leader_Leader.f k bt681.1 bt681.2 (([(([5, 0, (-1)] : List Int)), (([5, 1, 1] : List Int)), (([5, 2, 0] : List Int))] : List (List Int)))).bind fun t714 => (if t714 = (-1) then ((leader_Claim.f k bt681.1 bt681.2).bind fun bt715 => (some (bt715.2.2.2.1 == 5))) else (none))) else (none))) else (none))))
theorem selfstablaw26_known.mono : ∀ k, LeO (selfstablaw26_known.f k ) (selfstablaw26_known.f (k + 1) ) := by
 intro  k
 unfold selfstablaw26_known.f
 repeat' first
   | (with_reducible exact leader_Claim.mono _ _ _)
   | (with_reducible exact leader_Leader.mono _ _ _ _)
   | (with_reducible exact leader_Legit.mono _ _ _ _)
   | (with_reducible exact LeO.refl _)
   | (with_reducible exact LeO.none _)
   | (with_reducible refine LeO.ite ?_ ?_)
   | (with_reducible refine LeO.bind ?_ (fun _ => ?_))
   | exact leader_Claim.mono _ _ _
   | exact leader_Leader.mono _ _ _ _
   | exact leader_Legit.mono _ _ _ _
   | exact LeO.none _
   | refine LeO.ite ?_ ?_
   | refine LeO.bind ?_ (fun _ => ?_)
set_option maxHeartbeats 8000000 in
set_option maxRecDepth 100000 in
theorem selfstablaw26_known.calls (k : Nat)  (r : Bool) (w : World) (h : selfstablaw26_known.f k  = some r) :
  Calls Try.prog 48 #[] w fun e w' => e = .returned (.bool r) ∧ Below w.heap.size w w' := by
 have hu24 := Try.underlying24
 have hu27 := Try.underlying27
 have hu44 := Try.underlying44
 have hfd44_3 : ∀ (x0 x1 x2 x3 x4 : Value) (W : World), (Instr.field 44 (.agg #[x0, x1, x2, x3, x4]) 3).run Try.prog W = .ok (x3) W := by intros; rfl
 have HB := Aside0.mk (Below.refl w.heap.size w)
 have H : ((selfstabworld_Net_Tree.f 3 (([0, 1] : List Int)) ([] : List Int) (([5, 9, 7] : List Int)) false false 3).bind fun bt681 => ((some (([(([5, 0, (-1)] : List Int)), (([5, 1, 0] : List Int)), (([5, 2, 0] : List Int))] : List (List Int)) : List (List Int))).bind fun y697 => ((leader_Legit.f k bt681.1 bt681.2 y697).bind fun t700 => (if t700 = true then ((leader_Leader.f k bt681.1 bt681.2 y697).bind fun t701 => (if t701 = 0 then ((leader_Leader.f k bt681.1 bt681.2 (([(([5, 0, (-1)] : List Int)), (([5, 1, 1] : List Int)), (([5, 2, 0] : List Int))] : List (List Int)))).bind fun t714 => (if t714 = (-1) then ((leader_Claim.f k bt681.1 bt681.2).bind fun bt715 => (some (bt715.2.2.2.1 == 5))) else (none))) else (none))) else (none))))) = some r := h
 clear h
 obtain ⟨y675, hy675⟩ : ∃ y_ : List Int, y_ = (([0, 1] : List Int)) := ⟨_, rfl⟩
 replace H : ((selfstabworld_Net_Tree.f 3 y675 ([] : List Int) (([5, 9, 7] : List Int)) false false 3).bind fun bt681 => ((some (([(([5, 0, (-1)] : List Int)), (([5, 1, 0] : List Int)), (([5, 2, 0] : List Int))] : List (List Int)) : List (List Int))).bind fun y697 => ((leader_Legit.f k bt681.1 bt681.2 y697).bind fun t700 => (if t700 = true then ((leader_Leader.f k bt681.1 bt681.2 y697).bind fun t701 => (if t701 = 0 then ((leader_Leader.f k bt681.1 bt681.2 (([(([5, 0, (-1)] : List Int)), (([5, 1, 1] : List Int)), (([5, 2, 0] : List Int))] : List (List Int)))).bind fun t714 => (if t714 = (-1) then ((leader_Claim.f k bt681.1 bt681.2).bind fun bt715 => (some (bt715.2.2.2.1 == 5))) else (none))) else (none))) else (none))))) = some r := by first | (rw [hy675]; with_reducible exact H) | (have H2_ := (Option.bind_some _ _).symm.trans H; rw [hy675]; with_reducible exact H2_) | (have H2_ := (Option.bind_some _ _).symm.trans H; with_reducible exact H2_) | with_reducible exact H | (rw [hy675]; exact H) | exact H
 have Ny675 := Aside0.mk hy675
 clear hy675
 obtain ⟨y678, hy678⟩ : ∃ y_ : List Int, y_ = (([5, 9, 7] : List Int)) := ⟨_, rfl⟩
 replace H : ((selfstabworld_Net_Tree.f 3 y675 ([] : List Int) y678 false false 3).bind fun bt681 => ((some (([(([5, 0, (-1)] : List Int)), (([5, 1, 0] : List Int)), (([5, 2, 0] : List Int))] : List (List Int)) : List (List Int))).bind fun y697 => ((leader_Legit.f k bt681.1 bt681.2 y697).bind fun t700 => (if t700 = true then ((leader_Leader.f k bt681.1 bt681.2 y697).bind fun t701 => (if t701 = 0 then ((leader_Leader.f k bt681.1 bt681.2 (([(([5, 0, (-1)] : List Int)), (([5, 1, 1] : List Int)), (([5, 2, 0] : List Int))] : List (List Int)))).bind fun t714 => (if t714 = (-1) then ((leader_Claim.f k bt681.1 bt681.2).bind fun bt715 => (some (bt715.2.2.2.1 == 5))) else (none))) else (none))) else (none))))) = some r := by first | (rw [hy678]; with_reducible exact H) | (have H2_ := (Option.bind_some _ _).symm.trans H; rw [hy678]; with_reducible exact H2_) | (have H2_ := (Option.bind_some _ _).symm.trans H; with_reducible exact H2_) | with_reducible exact H | (rw [hy678]; exact H) | exact H
 have Ny678 := Aside0.mk hy678
 clear hy678
 replace H := Option.bind_eq_some_iff.mp H
 obtain ⟨⟨t681, t684⟩, A10, H⟩ := H
 replace H : ((some (([(([5, 0, (-1)] : List Int)), (([5, 1, 0] : List Int)), (([5, 2, 0] : List Int))] : List (List Int)) : List (List Int))).bind fun y697 => ((leader_Legit.f k t681 t684 y697).bind fun t700 => (if t700 = true then ((leader_Leader.f k t681 t684 y697).bind fun t701 => (if t701 = 0 then ((leader_Leader.f k t681 t684 (([(([5, 0, (-1)] : List Int)), (([5, 1, 1] : List Int)), (([5, 2, 0] : List Int))] : List (List Int)))).bind fun t714 => (if t714 = (-1) then ((leader_Claim.f k t681 t684).bind fun bt715 => (some (bt715.2.2.2.1 == 5))) else (none))) else (none))) else (none)))) = some r := H
 have A1 := Aside0.mk A10
 clear A10
 obtain ⟨y688, hy688⟩ : ∃ y_ : List Int, y_ = (([5, 0, (-1)] : List Int)) := ⟨_, rfl⟩
 replace H : ((some (([y688, (([5, 1, 0] : List Int)), (([5, 2, 0] : List Int))] : List (List Int)) : List (List Int))).bind fun y697 => ((leader_Legit.f k t681 t684 y697).bind fun t700 => (if t700 = true then ((leader_Leader.f k t681 t684 y697).bind fun t701 => (if t701 = 0 then ((leader_Leader.f k t681 t684 (([(([5, 0, (-1)] : List Int)), (([5, 1, 1] : List Int)), (([5, 2, 0] : List Int))] : List (List Int)))).bind fun t714 => (if t714 = (-1) then ((leader_Claim.f k t681 t684).bind fun bt715 => (some (bt715.2.2.2.1 == 5))) else (none))) else (none))) else (none)))) = some r := by first | (rw [hy688]; with_reducible exact H) | (have H2_ := (Option.bind_some _ _).symm.trans H; rw [hy688]; with_reducible exact H2_) | (have H2_ := (Option.bind_some _ _).symm.trans H; with_reducible exact H2_) | with_reducible exact H | (rw [hy688]; exact H) | exact H
 have Ny688 := Aside0.mk hy688
 clear hy688
 obtain ⟨y691, hy691⟩ : ∃ y_ : List Int, y_ = (([5, 1, 0] : List Int)) := ⟨_, rfl⟩
 replace H : ((some (([y688, y691, (([5, 2, 0] : List Int))] : List (List Int)) : List (List Int))).bind fun y697 => ((leader_Legit.f k t681 t684 y697).bind fun t700 => (if t700 = true then ((leader_Leader.f k t681 t684 y697).bind fun t701 => (if t701 = 0 then ((leader_Leader.f k t681 t684 (([(([5, 0, (-1)] : List Int)), (([5, 1, 1] : List Int)), (([5, 2, 0] : List Int))] : List (List Int)))).bind fun t714 => (if t714 = (-1) then ((leader_Claim.f k t681 t684).bind fun bt715 => (some (bt715.2.2.2.1 == 5))) else (none))) else (none))) else (none)))) = some r := by first | (rw [hy691]; with_reducible exact H) | (have H2_ := (Option.bind_some _ _).symm.trans H; rw [hy691]; with_reducible exact H2_) | (have H2_ := (Option.bind_some _ _).symm.trans H; with_reducible exact H2_) | with_reducible exact H | (rw [hy691]; exact H) | exact H
 have Ny691 := Aside0.mk hy691
 clear hy691
 obtain ⟨y694, hy694⟩ : ∃ y_ : List Int, y_ = (([5, 2, 0] : List Int)) := ⟨_, rfl⟩
 replace H : ((some (([y688, y691, y694] : List (List Int)) : List (List Int))).bind fun y697 => ((leader_Legit.f k t681 t684 y697).bind fun t700 => (if t700 = true then ((leader_Leader.f k t681 t684 y697).bind fun t701 => (if t701 = 0 then ((leader_Leader.f k t681 t684 (([(([5, 0, (-1)] : List Int)), (([5, 1, 1] : List Int)), (([5, 2, 0] : List Int))] : List (List Int)))).bind fun t714 => (if t714 = (-1) then ((leader_Claim.f k t681 t684).bind fun bt715 => (some (bt715.2.2.2.1 == 5))) else (none))) else (none))) else (none)))) = some r := by first | (rw [hy694]; with_reducible exact H) | (have H2_ := (Option.bind_some _ _).symm.trans H; rw [hy694]; with_reducible exact H2_) | (have H2_ := (Option.bind_some _ _).symm.trans H; with_reducible exact H2_) | with_reducible exact H | (rw [hy694]; exact H) | exact H
 have Ny694 := Aside0.mk hy694
 clear hy694
 obtain ⟨y697, hy697⟩ : ∃ y_ : List (List Int), y_ = (([y688, y691, y694] : List (List Int))) := ⟨_, rfl⟩
 replace H : ((leader_Legit.f k t681 t684 y697).bind fun t700 => (if t700 = true then ((leader_Leader.f k t681 t684 y697).bind fun t701 => (if t701 = 0 then ((leader_Leader.f k t681 t684 (([(([5, 0, (-1)] : List Int)), (([5, 1, 1] : List Int)), (([5, 2, 0] : List Int))] : List (List Int)))).bind fun t714 => (if t714 = (-1) then ((leader_Claim.f k t681 t684).bind fun bt715 => (some (bt715.2.2.2.1 == 5))) else (none))) else (none))) else (none))) = some r := by first | (rw [hy697]; with_reducible exact H) | (have H2_ := (Option.bind_some _ _).symm.trans H; rw [hy697]; with_reducible exact H2_) | (have H2_ := (Option.bind_some _ _).symm.trans H; with_reducible exact H2_) | with_reducible exact H | (rw [hy697]; exact H) | exact H
 have Ny697 := Aside0.mk hy697
 clear hy697
 replace H := Option.bind_eq_some_iff.mp H
 obtain ⟨t700, A20, H⟩ := H
 replace H : (if t700 = true then ((leader_Leader.f k t681 t684 y697).bind fun t701 => (if t701 = 0 then ((leader_Leader.f k t681 t684 (([(([5, 0, (-1)] : List Int)), (([5, 1, 1] : List Int)), (([5, 2, 0] : List Int))] : List (List Int)))).bind fun t714 => (if t714 = (-1) then ((leader_Claim.f k t681 t684).bind fun bt715 => (some (bt715.2.2.2.1 == 5))) else (none))) else (none))) else (none)) = some r := H
 have A2 := Aside0.mk A20
 clear A20
 by_cases c3 : t700 = true
 ·
  subst c3
  have H1 : ((leader_Leader.f k t681 t684 y697).bind fun t701 => (if t701 = 0 then ((leader_Leader.f k t681 t684 (([(([5, 0, (-1)] : List Int)), (([5, 1, 1] : List Int)), (([5, 2, 0] : List Int))] : List (List Int)))).bind fun t714 => (if t714 = (-1) then ((leader_Claim.f k t681 t684).bind fun bt715 => (some (bt715.2.2.2.1 == 5))) else (none))) else (none))) = some r := by rw [if_pos rfl] at H; exact H
  clear H
  have H := H1
  clear H1
  replace H := Option.bind_eq_some_iff.mp H
  obtain ⟨t701, A40, H⟩ := H
  replace H : (if t701 = 0 then ((leader_Leader.f k t681 t684 (([(([5, 0, (-1)] : List Int)), (([5, 1, 1] : List Int)), (([5, 2, 0] : List Int))] : List (List Int)))).bind fun t714 => (if t714 = (-1) then ((leader_Claim.f k t681 t684).bind fun bt715 => (some (bt715.2.2.2.1 == 5))) else (none))) else (none)) = some r := H
  have A4 := Aside0.mk A40
  clear A40
  by_cases c5 : t701 = 0
  ·
   rw [if_pos c5] at H
   have c5b0 : (t701 == 0) = true := beq_iff_eq.mpr c5
   have c5b1 : (t701 != 0) = false := bne_eq_false_iff_eq.mpr c5
   clear c5
   obtain ⟨y702, hy702⟩ : ∃ y_ : List Int, y_ = (([5, 0, (-1)] : List Int)) := ⟨_, rfl⟩
   replace H : ((leader_Leader.f k t681 t684 (([y702, (([5, 1, 1] : List Int)), (([5, 2, 0] : List Int))] : List (List Int)))).bind fun t714 => (if t714 = (-1) then ((leader_Claim.f k t681 t684).bind fun bt715 => (some (bt715.2.2.2.1 == 5))) else (none))) = some r := by first | (rw [hy702]; with_reducible exact H) | (have H2_ := (Option.bind_some _ _).symm.trans H; rw [hy702]; with_reducible exact H2_) | (have H2_ := (Option.bind_some _ _).symm.trans H; with_reducible exact H2_) | with_reducible exact H | (rw [hy702]; exact H) | exact H
   have Ny702 := Aside0.mk hy702
   clear hy702
   obtain ⟨y705, hy705⟩ : ∃ y_ : List Int, y_ = (([5, 1, 1] : List Int)) := ⟨_, rfl⟩
   replace H : ((leader_Leader.f k t681 t684 (([y702, y705, (([5, 2, 0] : List Int))] : List (List Int)))).bind fun t714 => (if t714 = (-1) then ((leader_Claim.f k t681 t684).bind fun bt715 => (some (bt715.2.2.2.1 == 5))) else (none))) = some r := by first | (rw [hy705]; with_reducible exact H) | (have H2_ := (Option.bind_some _ _).symm.trans H; rw [hy705]; with_reducible exact H2_) | (have H2_ := (Option.bind_some _ _).symm.trans H; with_reducible exact H2_) | with_reducible exact H | (rw [hy705]; exact H) | exact H
   have Ny705 := Aside0.mk hy705
   clear hy705
   obtain ⟨y708, hy708⟩ : ∃ y_ : List Int, y_ = (([5, 2, 0] : List Int)) := ⟨_, rfl⟩
   replace H : ((leader_Leader.f k t681 t684 (([y702, y705, y708] : List (List Int)))).bind fun t714 => (if t714 = (-1) then ((leader_Claim.f k t681 t684).bind fun bt715 => (some (bt715.2.2.2.1 == 5))) else (none))) = some r := by first | (rw [hy708]; with_reducible exact H) | (have H2_ := (Option.bind_some _ _).symm.trans H; rw [hy708]; with_reducible exact H2_) | (have H2_ := (Option.bind_some _ _).symm.trans H; with_reducible exact H2_) | with_reducible exact H | (rw [hy708]; exact H) | exact H
   have Ny708 := Aside0.mk hy708
   clear hy708
   obtain ⟨y711, hy711⟩ : ∃ y_ : List (List Int), y_ = (([y702, y705, y708] : List (List Int))) := ⟨_, rfl⟩
   replace H : ((leader_Leader.f k t681 t684 y711).bind fun t714 => (if t714 = (-1) then ((leader_Claim.f k t681 t684).bind fun bt715 => (some (bt715.2.2.2.1 == 5))) else (none))) = some r := by first | (rw [hy711]; with_reducible exact H) | (have H2_ := (Option.bind_some _ _).symm.trans H; rw [hy711]; with_reducible exact H2_) | (have H2_ := (Option.bind_some _ _).symm.trans H; with_reducible exact H2_) | with_reducible exact H | (rw [hy711]; exact H) | exact H
   have Ny711 := Aside0.mk hy711
   clear hy711
   replace H := Option.bind_eq_some_iff.mp H
   obtain ⟨t714, A60, H⟩ := H
   replace H : (if t714 = (-1) then ((leader_Claim.f k t681 t684).bind fun bt715 => (some (bt715.2.2.2.1 == 5))) else (none)) = some r := H
   have A6 := Aside0.mk A60
   clear A60
   by_cases c7 : t714 = (-1)
   ·
    rw [if_pos c7] at H
    have c7b0 : (t714 == (-1)) = true := beq_iff_eq.mpr c7
    have c7b1 : (t714 != (-1)) = false := bne_eq_false_iff_eq.mpr c7
    clear c7
    replace H := Option.bind_eq_some_iff.mp H
    obtain ⟨⟨t715, t716, t717, t718, t719⟩, A80, H⟩ := H
    replace H : (some (t718 == 5)) = some r := H
    have A8 := Aside0.mk A80
    clear A80
    obtain rfl := Option.some.inj H
    go_enter Try.func48, Try.ntmps48
    go_wp2_with (first | ((with_reducible refine gate_dst (N := 3) rfl ?_); (try (refine gate_guard (by rfl) ?_; dsimp only)); refine Kd.R_lit (Kd.int .i64) _ 3 ?hg (N := 3) ?hd (xs := ([0, 1] : List Int)) (inner := [.int .i64 0, .int .i64 1]) (ok := fun _ => True) (okp := fun _ => True) ?hr ?hp (fun _ hk => hk) trivial (Below.refl _ _) (Nat.le_refl _) (by simp) ?_; (case hd => rfl); (case hg => rfl); (case hr => first | (go_simp; done) | (go_simp; rfl)); (case hp => exact (Reps.one (show Kd.M (Kd.int .i64) _ _ _ 0 [.int .i64 0] from rfl) (Reps.one (show Kd.M (Kd.int .i64) _ _ _ 1 [.int .i64 1] from rfl) (Reps.none _ _)))); intro v676 w9 ho10 hb hg_ hnew_; clear hg_ hnew_; (first | rw [← Ny675.out] at ho10 | (simp only [Int.reduceToNat] at ho10; rw [← Ny675.out] at ho10)); have n0_ := Aside0.mk (Kd.R_lower ho10 (below_size (by repeat (first | (with_reducible first | exact HB.out | apply below_alloc | apply pw_below_drewN | apply below_drew1) | exact HB.out)))); have n1_ := Aside0.mk (below_step (by repeat (first | (with_reducible first | exact HB.out | apply below_alloc | apply pw_below_drewN | apply below_drew1) | exact HB.out)) hb); clear HB; have HO677 := n0_; have HB := n1_; clear n0_ n1_; clear hb ho10) | ((with_reducible refine gate_dst (N := 4) rfl ?_); (try (refine gate_guard (by rfl) ?_; dsimp only)); refine Kd.R_lit (Kd.int .i64) _ 3 ?hg (N := 4) ?hd (xs := ([5, 9, 7] : List Int)) (inner := [.int .i64 5, .int .i64 9, .int .i64 7]) (ok := fun _ => True) (okp := fun _ => True) ?hr ?hp (fun _ hk => hk) trivial (Below.refl _ _) (Nat.le_refl _) (by simp) ?_; (case hd => rfl); (case hg => rfl); (case hr => first | (go_simp; done) | (go_simp; rfl)); (case hp => exact (Reps.one (show Kd.M (Kd.int .i64) _ _ _ 5 [.int .i64 5] from rfl) (Reps.one (show Kd.M (Kd.int .i64) _ _ _ 9 [.int .i64 9] from rfl) (Reps.one (show Kd.M (Kd.int .i64) _ _ _ 7 [.int .i64 7] from rfl) (Reps.none _ _))))); intro v679 w11 ho12 hb hg_ hnew_; clear hg_ hnew_; (first | rw [← Ny678.out] at ho12 | (simp only [Int.reduceToNat] at ho12; rw [← Ny678.out] at ho12)); have n0_ := Aside0.mk (Kd.R_elder' (by (with_reducible repeat (first | apply Kd.R_alloc | apply Kd.R_drewN | apply Kd.R_drew)); exact HO677.out) (Kd.R_base ho12) hb); have n1_ := Aside0.mk (Kd.R_lower (Kd.R_new' ho12 (Kd.R_lt (by (with_reducible repeat (first | apply Kd.R_alloc | apply Kd.R_drewN | apply Kd.R_drew)); exact HO677.out))) (below_size (by repeat (first | (with_reducible first | exact HB.out | apply below_alloc | apply pw_below_drewN | apply below_drew1) | exact HB.out)))); have n2_ := Aside0.mk (below_step (by repeat (first | (with_reducible first | exact HB.out | apply below_alloc | apply pw_below_drewN | apply below_drew1) | exact HB.out)) hb); clear HO677; clear HB; have HO677 := n0_; have HO680 := n1_; have HB := n2_; clear n0_ n1_ n2_; clear hb ho12; obtain ⟨Ao13, co13, eo13⟩ := Kd.R_slice HO680.out; subst eo13; obtain ⟨Ao14, co14, eo14⟩ := Kd.R_slice HO677.out; subst eo14) | ((with_reducible refine gate_callee (f := 77) rfl ?_); refine goesL_ (some 6) rfl rfl Try.func77 (by kernel_rfl) rfl #[.agg #[.int .i64 3, .slice Ao14 y675.length co14, .slice none 0 0, .slice Ao13 y678.length co13, .bool false, .bool false], .int .i64 3] rfl (by (try simp only [List.map_toArray, List.map_cons, List.map_nil]); first | done | rfl | (simp only [List.length_drop, List.length_take]; rfl)) ?_; (refine (selfstabworld_Net_Tree.calls 3 _ _ y675 _ _ ([] : List Int) _ _ y678 false false 3 t681 t684 _ ?side1 ?side2 ?side3 ?side4 ?side5 ?side6 A1.out).mono ?_); (case side1 => repeat (first | exact (Kd.R_reads' HO677.out).2.2 | (with_reducible refine Kd.C_alloc ?_ _) | (with_reducible refine Kd.C_drewN ?_ _) | (with_reducible refine Kd.C_drew ?_))); (case side2 => exact (Kd.R_reads' HO677.out).2.1); (case side3 => exact Kd.C_nil _ _); (case side4 => exact Nat.le_refl _); (case side5 => repeat (first | exact (Kd.R_reads' HO680.out).2.2 | (with_reducible refine Kd.C_alloc ?_ _) | (with_reducible refine Kd.C_drewN ?_ _) | (with_reducible refine Kd.C_drew ?_))); (case side6 => exact (Kd.R_reads' HO680.out).2.1); rintro e w15 ⟨v682, v685, rfl, ho0, ho1, hb⟩; refine ⟨_, rfl, ?_⟩; have n0_ := Aside0.mk (Kd.R_elder' (by (with_reducible repeat (first | apply Kd.R_alloc | apply Kd.R_drewN | apply Kd.R_drew)); exact HO677.out) (Kd.R_base ho0) hb); have n1_ := Aside0.mk (Kd.R_elder' (by (with_reducible repeat (first | apply Kd.R_alloc | apply Kd.R_drewN | apply Kd.R_drew)); exact HO680.out) (Kd.R_base ho0) hb); have n2_ := Aside0.mk (Kd.R_lower (Kd.R_new' (Kd.R_new' ho0 (Kd.R_lt (by (with_reducible repeat (first | apply Kd.R_alloc | apply Kd.R_drewN | apply Kd.R_drew)); exact HO677.out))) (Kd.R_lt (by (with_reducible repeat (first | apply Kd.R_alloc | apply Kd.R_drewN | apply Kd.R_drew)); exact HO680.out))) (below_size (by repeat (first | (with_reducible first | exact HB.out | apply below_alloc | apply pw_below_drewN | apply below_drew1) | exact HB.out)))); have n3_ := Aside0.mk (Kd.N_lower (Kd.N_mono (ok' := fun k_ => some k_ ≠ (v682 : Value).ownBlock ∧ some k_ ≠ (.slice Ao14 y675.length co14 : Value).ownBlock ∧ some k_ ≠ (.slice Ao13 y678.length co13 : Value).ownBlock) (Kd.S_N (Kd.S_bound (Kd.S_apart' ho1 (Kd.R_typed ho0) (by decide)))) (fun k_ hk_ => ⟨hk_.1.2, (Kd.fresh' (Kd.R_lt (by (with_reducible repeat (first | apply Kd.R_alloc | apply Kd.R_drewN | apply Kd.R_drew)); exact HO677.out)) k_ hk_.2.1), (Kd.fresh' (Kd.R_lt (by (with_reducible repeat (first | apply Kd.R_alloc | apply Kd.R_drewN | apply Kd.R_drew)); exact HO680.out)) k_ hk_.2.1)⟩)) (below_size (by repeat (first | (with_reducible first | exact HB.out | apply below_alloc | apply pw_below_drewN | apply below_drew1) | exact HB.out)))); have n4_ := Aside0.mk (below_step (by repeat (first | (with_reducible first | exact HB.out | apply below_alloc | apply pw_below_drewN | apply below_drew1) | exact HB.out)) hb); clear HO677; clear HO680; clear HB; have HO677 := n0_; have HO680 := n1_; have HO683 := n2_; have HO686 := n3_; have HB := n4_; clear n0_ n1_ n2_ n3_ n4_; (try clear hb); (try clear hb2); (try clear hk); (try clear hi); (try clear ho0); (try clear ho1)) | ((with_reducible refine gate_dst (N := 1) rfl ?_); (try (refine gate_guard (by rfl) ?_; dsimp only)); refine box_event ?hg (N := 1) ?hd (cs := #[.slice none 0 0, .slice none 0 0]) (t := 27) ?hr ?_; (case hd => rfl); (case hg => rfl); (case hr => first | (go_simp; done) | (go_simp; rfl)); intro gb687 hg w16 hbox hb; have n0_ := Aside0.mk (Kd.R_below (by (with_reducible repeat (first | apply Kd.R_alloc | apply Kd.R_drewN | apply Kd.R_drew)); exact HO677.out) hb); have n1_ := Aside0.mk (Kd.R_below (by (with_reducible repeat (first | apply Kd.R_alloc | apply Kd.R_drewN | apply Kd.R_drew)); exact HO680.out) hb); have n2_ := Aside0.mk (Kd.R_below (by (with_reducible repeat (first | apply Kd.R_alloc | apply Kd.R_drewN | apply Kd.R_drew)); exact HO683.out) hb); have n3_ := Aside0.mk (Kd.N_below (Kd.N_elderB (by (with_reducible repeat (first | apply Kd.N_alloc | apply Kd.N_drewN | apply Kd.N_drew)); exact HO686.out) gb687 (Nat.le_of_eq hg.symm)) hb); have n4_ := Aside0.mk (below_step (by repeat (first | (with_reducible first | exact HB.out | apply below_alloc | apply pw_below_drewN | apply below_drew1) | exact HB.out)) hb); have n5_ := Aside0.mk (hbox); have n6_ := Aside0.mk ((by rw [hg]; exact (below_size (by repeat (first | (with_reducible first | exact HB.out | apply below_alloc | apply pw_below_drewN | apply below_drew1) | exact HB.out))) : w.heap.size ≤ gb687)); have n7_ := Aside0.mk ((by rw [hg]; exact (below_size (by repeat (first | (with_reducible first | exact HB.out | apply below_alloc | apply pw_below_drewN | apply below_drew1) | exact HB.out))) : w.heap.size ≤ gb687)); clear HO677; clear HO680; clear HO683; clear HO686; clear HB; have HO677 := n0_; have HO680 := n1_; have HO683 := n2_; have HO686 := n3_; have HB := n4_; have BK687 := n5_; have GW687 := n6_; have GE687 := n7_; clear n0_ n1_ n2_ n3_ n4_ n5_ n6_ n7_; clear hb hbox hg; obtain ⟨Ao17, co17, eo17⟩ := Kd.R_slice HO683.out; subst eo17; have hcz18_0 : w16.cell? ⟨gb687, 0, none⟩ = some (.slice none 0 0) := (blk_cell BK687.out 0).trans rfl; have hcz18_1 : w16.cell? ⟨gb687, 1, none⟩ = some (.slice none 0 0) := (blk_cell BK687.out 1).trans rfl; have hfz18_0 := blk_frozen BK687.out 0; have hfz18_1 := blk_frozen BK687.out 1; obtain ⟨Ao19, co19, eo19⟩ := Kd.N_slice HO686.out; subst eo19) | ((with_reducible refine gate_dst (N := 7) rfl ?_); (try (refine gate_guard (by rfl) ?_; dsimp only)); refine Kd.R_lit (Kd.int .i64) _ 3 ?hg (N := 7) ?hd (xs := ([5, 0, (-1)] : List Int)) (inner := [.int .i64 5, .int .i64 0, .int .i64 (-1)]) (ok := fun _ => True) (okp := fun _ => True) ?hr ?hp (fun _ hk => hk) trivial (Below.refl _ _) (Nat.le_refl _) (by simp) ?_; (case hd => rfl); (case hg => rfl); (case hr => first | (go_simp; done) | (go_simp; rfl)); (case hp => exact (Reps.one (show Kd.M (Kd.int .i64) _ _ _ 5 [.int .i64 5] from rfl) (Reps.one (show Kd.M (Kd.int .i64) _ _ _ 0 [.int .i64 0] from rfl) (Reps.one (show Kd.M (Kd.int .i64) _ _ _ (-1) [.int .i64 (-1)] from rfl) (Reps.none _ _))))); intro v689 w20 ho21 hb hg_ hnew_; clear hg_ hnew_; (first | rw [← Ny688.out] at ho21 | (simp only [Int.reduceToNat] at ho21; rw [← Ny688.out] at ho21)); have n0_ := Aside0.mk (Kd.R_elder' (by (with_reducible repeat (first | apply Kd.R_alloc | apply Kd.R_drewN | apply Kd.R_drew)); exact (Kd.R_mono (Kd.R_far (p := ⟨gb687, 1, none⟩) (Kd.R_far (p := ⟨gb687, 0, none⟩) (Kd.R_types HO677.out BK687.out (by decide)) (fun _ hk => hk.2) (.slice Ao17 t681.length co17)) (fun _ hk => hk.2) (.slice Ao19 t684.length co19)) (fun _ h_ => h_.1))) (Kd.R_base ho21) hb); have n1_ := Aside0.mk (Kd.R_elder' (by (with_reducible repeat (first | apply Kd.R_alloc | apply Kd.R_drewN | apply Kd.R_drew)); exact (Kd.R_mono (Kd.R_far (p := ⟨gb687, 1, none⟩) (Kd.R_far (p := ⟨gb687, 0, none⟩) (Kd.R_types HO680.out BK687.out (by decide)) (fun _ hk => hk.2) (.slice Ao17 t681.length co17)) (fun _ hk => hk.2) (.slice Ao19 t684.length co19)) (fun _ h_ => h_.1))) (Kd.R_base ho21) hb); have n2_ := Aside0.mk (Kd.R_elder' (by (with_reducible repeat (first | apply Kd.R_alloc | apply Kd.R_drewN | apply Kd.R_drew)); exact (Kd.R_mono (Kd.R_far (p := ⟨gb687, 1, none⟩) (Kd.R_far (p := ⟨gb687, 0, none⟩) (Kd.R_types HO683.out BK687.out (by decide)) (fun _ hk => hk.2) (.slice Ao17 t681.length co17)) (fun _ hk => hk.2) (.slice Ao19 t684.length co19)) (fun _ h_ => h_.1))) (Kd.R_base ho21) hb); have n3_ := Aside0.mk (Kd.N_elder' (by (with_reducible repeat (first | apply Kd.N_alloc | apply Kd.N_drewN | apply Kd.N_drew)); exact (Kd.N_mono (Kd.N_far (p := ⟨gb687, 1, none⟩) (Kd.N_far (p := ⟨gb687, 0, none⟩) (Kd.N_mono HO686.out (fun k_ hk => (⟨hk, hk.2⟩ : _ ∧ k_ ≠ gb687))) (fun _ hk => hk.2) (.slice Ao17 t681.length co17)) (fun _ hk => hk.2) (.slice Ao19 t684.length co19)) (fun _ h_ => h_.1))) (Kd.R_base ho21) hb); have n4_ := Aside0.mk (Kd.R_lower (Kd.R_new' (Kd.R_new' (Kd.R_new' ho21 (Kd.R_lt (by (with_reducible repeat (first | apply Kd.R_alloc | apply Kd.R_drewN | apply Kd.R_drew)); exact (Kd.R_mono (Kd.R_far (p := ⟨gb687, 1, none⟩) (Kd.R_far (p := ⟨gb687, 0, none⟩) (Kd.R_types HO677.out BK687.out (by decide)) (fun _ hk => hk.2) (.slice Ao17 t681.length co17)) (fun _ hk => hk.2) (.slice Ao19 t684.length co19)) (fun _ h_ => h_.1))))) (Kd.R_lt (by (with_reducible repeat (first | apply Kd.R_alloc | apply Kd.R_drewN | apply Kd.R_drew)); exact (Kd.R_mono (Kd.R_far (p := ⟨gb687, 1, none⟩) (Kd.R_far (p := ⟨gb687, 0, none⟩) (Kd.R_types HO680.out BK687.out (by decide)) (fun _ hk => hk.2) (.slice Ao17 t681.length co17)) (fun _ hk => hk.2) (.slice Ao19 t684.length co19)) (fun _ h_ => h_.1))))) (Kd.R_lt (by (with_reducible repeat (first | apply Kd.R_alloc | apply Kd.R_drewN | apply Kd.R_drew)); exact (Kd.R_mono (Kd.R_far (p := ⟨gb687, 1, none⟩) (Kd.R_far (p := ⟨gb687, 0, none⟩) (Kd.R_types HO683.out BK687.out (by decide)) (fun _ hk => hk.2) (.slice Ao17 t681.length co17)) (fun _ hk => hk.2) (.slice Ao19 t684.length co19)) (fun _ h_ => h_.1))))) (below_size (by repeat (first | (with_reducible first | exact HB.out | apply below_alloc | apply pw_below_drewN | apply below_drew1 | refine below_set ?_ GE687.out) | exact HB.out)))); have n5_ := Aside0.mk (blk_below (g := gb687) (o := .cells #[.slice Ao17 t681.length co17, .slice Ao19 t684.length co19] 27 (0, 0)) (by (with_reducible repeat (first | refine blk_drewN ?_ _ | refine blk_drew ?_ | refine blk_alloc ?_ _)); refine blk_put (cs := #[.slice Ao17 t681.length co17, .slice none 0 0]) ?_ 1 _ rfl; (with_reducible repeat (first | refine blk_drewN ?_ _ | refine blk_drew ?_ | refine blk_alloc ?_ _)); refine blk_put (cs := #[.slice none 0 0, .slice none 0 0]) ?_ 0 _ rfl; (with_reducible repeat (first | refine blk_drewN ?_ _ | refine blk_drew ?_ | refine blk_alloc ?_ _)); exact BK687.out) hb); have n6_ := Aside0.mk (below_step (by repeat (first | (with_reducible first | exact HB.out | apply below_alloc | apply pw_below_drewN | apply below_drew1 | refine below_set ?_ GE687.out) | exact HB.out)) hb); clear HO677; clear HO680; clear HO683; clear HO686; clear BK687; clear HB; have HO677 := n0_; have HO680 := n1_; have HO683 := n2_; have HO686 := n3_; have HO690 := n4_; have BK687 := n5_; have HB := n6_; clear n0_ n1_ n2_ n3_ n4_ n5_ n6_; clear hb ho21) | ((with_reducible refine gate_dst (N := 8) rfl ?_); (try (refine gate_guard (by rfl) ?_; dsimp only)); refine Kd.R_lit (Kd.int .i64) _ 3 ?hg (N := 8) ?hd (xs := ([5, 1, 0] : List Int)) (inner := [.int .i64 5, .int .i64 1, .int .i64 0]) (ok := fun _ => True) (okp := fun _ => True) ?hr ?hp (fun _ hk => hk) trivial (Below.refl _ _) (Nat.le_refl _) (by simp) ?_; (case hd => rfl); (case hg => rfl); (case hr => first | (go_simp; done) | (go_simp; rfl)); (case hp => exact (Reps.one (show Kd.M (Kd.int .i64) _ _ _ 5 [.int .i64 5] from rfl) (Reps.one (show Kd.M (Kd.int .i64) _ _ _ 1 [.int .i64 1] from rfl) (Reps.one (show Kd.M (Kd.int .i64) _ _ _ 0 [.int .i64 0] from rfl) (Reps.none _ _))))); intro v692 w22 ho23 hb hg_ hnew_; clear hg_ hnew_; (first | rw [← Ny691.out] at ho23 | (simp only [Int.reduceToNat] at ho23; rw [← Ny691.out] at ho23)); have n0_ := Aside0.mk (Kd.R_elder' (by (with_reducible repeat (first | apply Kd.R_alloc | apply Kd.R_drewN | apply Kd.R_drew)); exact HO677.out) (Kd.R_base ho23) hb); have n1_ := Aside0.mk (Kd.R_elder' (by (with_reducible repeat (first | apply Kd.R_alloc | apply Kd.R_drewN | apply Kd.R_drew)); exact HO680.out) (Kd.R_base ho23) hb); have n2_ := Aside0.mk (Kd.R_elder' (by (with_reducible repeat (first | apply Kd.R_alloc | apply Kd.R_drewN | apply Kd.R_drew)); exact HO683.out) (Kd.R_base ho23) hb); have n3_ := Aside0.mk (Kd.N_elder' (by (with_reducible repeat (first | apply Kd.N_alloc | apply Kd.N_drewN | apply Kd.N_drew)); exact HO686.out) (Kd.R_base ho23) hb); have n4_ := Aside0.mk (Kd.R_elder' (by (with_reducible repeat (first | apply Kd.R_alloc | apply Kd.R_drewN | apply Kd.R_drew)); exact HO690.out) (Kd.R_base ho23) hb); have n5_ := Aside0.mk (Kd.R_lower (Kd.R_new' (Kd.R_new' (Kd.R_new' (Kd.R_new' ho23 (Kd.R_lt (by (with_reducible repeat (first | apply Kd.R_alloc | apply Kd.R_drewN | apply Kd.R_drew)); exact HO677.out))) (Kd.R_lt (by (with_reducible repeat (first | apply Kd.R_alloc | apply Kd.R_drewN | apply Kd.R_drew)); exact HO680.out))) (Kd.R_lt (by (with_reducible repeat (first | apply Kd.R_alloc | apply Kd.R_drewN | apply Kd.R_drew)); exact HO683.out))) (Kd.R_lt (by (with_reducible repeat (first | apply Kd.R_alloc | apply Kd.R_drewN | apply Kd.R_drew)); exact HO690.out))) (below_size (by repeat (first | (with_reducible first | exact HB.out | apply below_alloc | apply pw_below_drewN | apply below_drew1 | refine below_set ?_ GE687.out) | exact HB.out)))); have n6_ := Aside0.mk (blk_below (g := gb687) (o := .cells #[.slice Ao17 t681.length co17, .slice Ao19 t684.length co19] 27 (0, 0)) (by (with_reducible repeat (first | refine blk_drewN ?_ _ | refine blk_drew ?_ | refine blk_alloc ?_ _)); exact BK687.out) hb); have n7_ := Aside0.mk (below_step (by repeat (first | (with_reducible first | exact HB.out | apply below_alloc | apply pw_below_drewN | apply below_drew1 | refine below_set ?_ GE687.out) | exact HB.out)) hb); clear HO677; clear HO680; clear HO683; clear HO686; clear HO690; clear BK687; clear HB; have HO677 := n0_; have HO680 := n1_; have HO683 := n2_; have HO686 := n3_; have HO690 := n4_; have HO693 := n5_; have BK687 := n6_; have HB := n7_; clear n0_ n1_ n2_ n3_ n4_ n5_ n6_ n7_; clear hb ho23) | ((with_reducible refine gate_dst (N := 9) rfl ?_); (try (refine gate_guard (by rfl) ?_; dsimp only)); refine Kd.R_lit (Kd.int .i64) _ 3 ?hg (N := 9) ?hd (xs := ([5, 2, 0] : List Int)) (inner := [.int .i64 5, .int .i64 2, .int .i64 0]) (ok := fun _ => True) (okp := fun _ => True) ?hr ?hp (fun _ hk => hk) trivial (Below.refl _ _) (Nat.le_refl _) (by simp) ?_; (case hd => rfl); (case hg => rfl); (case hr => first | (go_simp; done) | (go_simp; rfl)); (case hp => exact (Reps.one (show Kd.M (Kd.int .i64) _ _ _ 5 [.int .i64 5] from rfl) (Reps.one (show Kd.M (Kd.int .i64) _ _ _ 2 [.int .i64 2] from rfl) (Reps.one (show Kd.M (Kd.int .i64) _ _ _ 0 [.int .i64 0] from rfl) (Reps.none _ _))))); intro v695 w24 ho25 hb hg_ hnew_; clear hg_ hnew_; (first | rw [← Ny694.out] at ho25 | (simp only [Int.reduceToNat] at ho25; rw [← Ny694.out] at ho25)); have n0_ := Aside0.mk (Kd.R_elder' (by (with_reducible repeat (first | apply Kd.R_alloc | apply Kd.R_drewN | apply Kd.R_drew)); exact HO677.out) (Kd.R_base ho25) hb); have n1_ := Aside0.mk (Kd.R_elder' (by (with_reducible repeat (first | apply Kd.R_alloc | apply Kd.R_drewN | apply Kd.R_drew)); exact HO680.out) (Kd.R_base ho25) hb); have n2_ := Aside0.mk (Kd.R_elder' (by (with_reducible repeat (first | apply Kd.R_alloc | apply Kd.R_drewN | apply Kd.R_drew)); exact HO683.out) (Kd.R_base ho25) hb); have n3_ := Aside0.mk (Kd.N_elder' (by (with_reducible repeat (first | apply Kd.N_alloc | apply Kd.N_drewN | apply Kd.N_drew)); exact HO686.out) (Kd.R_base ho25) hb); have n4_ := Aside0.mk (Kd.R_elder' (by (with_reducible repeat (first | apply Kd.R_alloc | apply Kd.R_drewN | apply Kd.R_drew)); exact HO690.out) (Kd.R_base ho25) hb); have n5_ := Aside0.mk (Kd.R_elder' (by (with_reducible repeat (first | apply Kd.R_alloc | apply Kd.R_drewN | apply Kd.R_drew)); exact HO693.out) (Kd.R_base ho25) hb); have n6_ := Aside0.mk (Kd.R_lower (Kd.R_new' (Kd.R_new' (Kd.R_new' (Kd.R_new' (Kd.R_new' ho25 (Kd.R_lt (by (with_reducible repeat (first | apply Kd.R_alloc | apply Kd.R_drewN | apply Kd.R_drew)); exact HO677.out))) (Kd.R_lt (by (with_reducible repeat (first | apply Kd.R_alloc | apply Kd.R_drewN | apply Kd.R_drew)); exact HO680.out))) (Kd.R_lt (by (with_reducible repeat (first | apply Kd.R_alloc | apply Kd.R_drewN | apply Kd.R_drew)); exact HO683.out))) (Kd.R_lt (by (with_reducible repeat (first | apply Kd.R_alloc | apply Kd.R_drewN | apply Kd.R_drew)); exact HO690.out))) (Kd.R_lt (by (with_reducible repeat (first | apply Kd.R_alloc | apply Kd.R_drewN | apply Kd.R_drew)); exact HO693.out))) (below_size (by repeat (first | (with_reducible first | exact HB.out | apply below_alloc | apply pw_below_drewN | apply below_drew1 | refine below_set ?_ GE687.out) | exact HB.out)))); have n7_ := Aside0.mk (blk_below (g := gb687) (o := .cells #[.slice Ao17 t681.length co17, .slice Ao19 t684.length co19] 27 (0, 0)) (by (with_reducible repeat (first | refine blk_drewN ?_ _ | refine blk_drew ?_ | refine blk_alloc ?_ _)); exact BK687.out) hb); have n8_ := Aside0.mk (below_step (by repeat (first | (with_reducible first | exact HB.out | apply below_alloc | apply pw_below_drewN | apply below_drew1 | refine below_set ?_ GE687.out) | exact HB.out)) hb); clear HO677; clear HO680; clear HO683; clear HO686; clear HO690; clear HO693; clear BK687; clear HB; have HO677 := n0_; have HO680 := n1_; have HO683 := n2_; have HO686 := n3_; have HO690 := n4_; have HO693 := n5_; have HO696 := n6_; have BK687 := n7_; have HB := n8_; clear n0_ n1_ n2_ n3_ n4_ n5_ n6_ n7_ n8_; clear hb ho25; obtain ⟨Ao26, co26, eo26⟩ := Kd.R_slice HO690.out; subst eo26; obtain ⟨Ao27, co27, eo27⟩ := Kd.R_slice HO693.out; subst eo27; obtain ⟨Ao28, co28, eo28⟩ := Kd.R_slice HO696.out; subst eo28) | ((with_reducible refine gate_dst (N := 10) rfl ?_); (try (refine gate_guard (by rfl) ?_; dsimp only)); refine Kd.N_lit (Kd.slice 3 (Kd.int .i64)) _ 22 ?hg (N' := 10) ?hd (xs := ([y688, y691, y694] : List (List Int))) (inner := [.slice Ao26 y688.length co26, .slice Ao27 y691.length co27, .slice Ao28 y694.length co28]) (ok := (fun k_ => some k_ ≠ (.slice Ao14 y675.length co14 : Value).ownBlock ∧ some k_ ≠ (.slice Ao13 y678.length co13 : Value).ownBlock ∧ some k_ ≠ (.slice Ao17 t681.length co17 : Value).ownBlock ∧ some k_ ≠ (.slice Ao19 t684.length co19 : Value).ownBlock ∧ k_ ≠ gb687)) (okp := (fun k_ => some k_ ≠ (.slice Ao14 y675.length co14 : Value).ownBlock ∧ some k_ ≠ (.slice Ao13 y678.length co13 : Value).ownBlock ∧ some k_ ≠ (.slice Ao17 t681.length co17 : Value).ownBlock ∧ some k_ ≠ (.slice Ao19 t684.length co19 : Value).ownBlock ∧ k_ ≠ gb687)) ?hr ?hp (fun _ hk => hk) ((show ∀ k_, w24.heap.size ≤ k_ → (fun k_ => some k_ ≠ (.slice Ao14 y675.length co14 : Value).ownBlock ∧ some k_ ≠ (.slice Ao13 y678.length co13 : Value).ownBlock ∧ some k_ ≠ (.slice Ao17 t681.length co17 : Value).ownBlock ∧ some k_ ≠ (.slice Ao19 t684.length co19 : Value).ownBlock ∧ k_ ≠ gb687) k_ from fun k_ hk => ⟨Kd.fresh' (Kd.R_lt (by (with_reducible repeat (first | apply Kd.R_alloc | apply Kd.R_drewN | apply Kd.R_drew)); exact HO677.out)) k_ hk, Kd.fresh' (Kd.R_lt (by (with_reducible repeat (first | apply Kd.R_alloc | apply Kd.R_drewN | apply Kd.R_drew)); exact HO680.out)) k_ hk, Kd.fresh' (Kd.R_lt (by (with_reducible repeat (first | apply Kd.R_alloc | apply Kd.R_drewN | apply Kd.R_drew)); exact HO683.out)) k_ hk, Kd.fresh' (Kd.N_lt (by (with_reducible repeat (first | apply Kd.N_alloc | apply Kd.N_drewN | apply Kd.N_drew)); exact HO686.out)) k_ hk, Kd.freshB (g := gb687) (o := .cells #[.slice Ao17 t681.length co17, .slice Ao19 t684.length co19] 27 (0, 0)) (by (with_reducible repeat (first | refine blk_drewN ?_ _ | refine blk_drew ?_ | refine blk_alloc ?_ _)); exact BK687.out) k_ hk⟩) _ (Nat.le_refl _)) (Below.refl _ _) (Nat.le_refl _) (by simp) ?_; (case hd => rfl); (case hg => rfl); (case hr => first | (go_simp; done) | (go_simp; rfl)); (case hp => exact (Reps.one (show Kd.FK (Kd.slice 3 (Kd.int .i64)) _ _ y688 [.slice Ao26 y688.length co26] from (Kd.FK_slice_mk (Kd.R_reads' (Kd.R_mono (ok' := (fun k_ => some k_ ≠ (.slice Ao14 y675.length co14 : Value).ownBlock ∧ some k_ ≠ (.slice Ao13 y678.length co13 : Value).ownBlock ∧ some k_ ≠ (.slice Ao17 t681.length co17 : Value).ownBlock ∧ some k_ ≠ (.slice Ao19 t684.length co19 : Value).ownBlock ∧ k_ ≠ gb687)) (Kd.R_types (Kd.R_apart' (HO690.out) (Kd.N_typed HO686.out) (by decide)) BK687.out (by decide)) (fun k_ hk => ⟨hk.1.1.1.1.1.1.2, ⟨hk.1.1.1.1.1.2, ⟨hk.1.1.1.1.2, ⟨hk.1.2, hk.2⟩⟩⟩⟩))).2.1 (Kd.R_F (Kd.R_mono (ok' := (fun k_ => some k_ ≠ (.slice Ao14 y675.length co14 : Value).ownBlock ∧ some k_ ≠ (.slice Ao13 y678.length co13 : Value).ownBlock ∧ some k_ ≠ (.slice Ao17 t681.length co17 : Value).ownBlock ∧ some k_ ≠ (.slice Ao19 t684.length co19 : Value).ownBlock ∧ k_ ≠ gb687)) (Kd.R_types (Kd.R_apart' (HO690.out) (Kd.N_typed HO686.out) (by decide)) BK687.out (by decide)) (fun k_ hk => ⟨hk.1.1.1.1.1.1.2, ⟨hk.1.1.1.1.1.2, ⟨hk.1.1.1.1.2, ⟨hk.1.2, hk.2⟩⟩⟩⟩))))) (Reps.one (show Kd.FK (Kd.slice 3 (Kd.int .i64)) _ _ y691 [.slice Ao27 y691.length co27] from (Kd.FK_slice_mk (Kd.R_reads' (Kd.R_mono (ok' := (fun k_ => some k_ ≠ (.slice Ao14 y675.length co14 : Value).ownBlock ∧ some k_ ≠ (.slice Ao13 y678.length co13 : Value).ownBlock ∧ some k_ ≠ (.slice Ao17 t681.length co17 : Value).ownBlock ∧ some k_ ≠ (.slice Ao19 t684.length co19 : Value).ownBlock ∧ k_ ≠ gb687)) (Kd.R_types (Kd.R_apart' (HO693.out) (Kd.N_typed HO686.out) (by decide)) BK687.out (by decide)) (fun k_ hk => ⟨hk.1.1.1.1.1.1.2, ⟨hk.1.1.1.1.1.2, ⟨hk.1.1.1.1.2, ⟨hk.1.2, hk.2⟩⟩⟩⟩))).2.1 (Kd.R_F (Kd.R_mono (ok' := (fun k_ => some k_ ≠ (.slice Ao14 y675.length co14 : Value).ownBlock ∧ some k_ ≠ (.slice Ao13 y678.length co13 : Value).ownBlock ∧ some k_ ≠ (.slice Ao17 t681.length co17 : Value).ownBlock ∧ some k_ ≠ (.slice Ao19 t684.length co19 : Value).ownBlock ∧ k_ ≠ gb687)) (Kd.R_types (Kd.R_apart' (HO693.out) (Kd.N_typed HO686.out) (by decide)) BK687.out (by decide)) (fun k_ hk => ⟨hk.1.1.1.1.1.1.2, ⟨hk.1.1.1.1.1.2, ⟨hk.1.1.1.1.2, ⟨hk.1.2, hk.2⟩⟩⟩⟩))))) (Reps.one (show Kd.FK (Kd.slice 3 (Kd.int .i64)) _ _ y694 [.slice Ao28 y694.length co28] from (Kd.FK_slice_mk (Kd.R_reads' (Kd.R_mono (ok' := (fun k_ => some k_ ≠ (.slice Ao14 y675.length co14 : Value).ownBlock ∧ some k_ ≠ (.slice Ao13 y678.length co13 : Value).ownBlock ∧ some k_ ≠ (.slice Ao17 t681.length co17 : Value).ownBlock ∧ some k_ ≠ (.slice Ao19 t684.length co19 : Value).ownBlock ∧ k_ ≠ gb687)) (Kd.R_types (Kd.R_apart' (HO696.out) (Kd.N_typed HO686.out) (by decide)) BK687.out (by decide)) (fun k_ hk => ⟨hk.1.1.1.1.1.1.2, ⟨hk.1.1.1.1.1.2, ⟨hk.1.1.1.1.2, ⟨hk.1.2, hk.2⟩⟩⟩⟩))).2.1 (Kd.R_F (Kd.R_mono (ok' := (fun k_ => some k_ ≠ (.slice Ao14 y675.length co14 : Value).ownBlock ∧ some k_ ≠ (.slice Ao13 y678.length co13 : Value).ownBlock ∧ some k_ ≠ (.slice Ao17 t681.length co17 : Value).ownBlock ∧ some k_ ≠ (.slice Ao19 t684.length co19 : Value).ownBlock ∧ k_ ≠ gb687)) (Kd.R_types (Kd.R_apart' (HO696.out) (Kd.N_typed HO686.out) (by decide)) BK687.out (by decide)) (fun k_ hk => ⟨hk.1.1.1.1.1.1.2, ⟨hk.1.1.1.1.1.2, ⟨hk.1.1.1.1.2, ⟨hk.1.2, hk.2⟩⟩⟩⟩))))) (Reps.none _ _))))); intro v698 w29 ho30 hb hg_ hnew_; clear hg_ hnew_; (first | rw [← Ny697.out] at ho30 | (simp only [Int.reduceToNat] at ho30; rw [← Ny697.out] at ho30)); have n0_ := Aside0.mk (Kd.R_below (by (with_reducible repeat (first | apply Kd.R_alloc | apply Kd.R_drewN | apply Kd.R_drew)); exact HO677.out) hb); have n1_ := Aside0.mk (Kd.R_below (by (with_reducible repeat (first | apply Kd.R_alloc | apply Kd.R_drewN | apply Kd.R_drew)); exact HO680.out) hb); have n2_ := Aside0.mk (Kd.R_below (by (with_reducible repeat (first | apply Kd.R_alloc | apply Kd.R_drewN | apply Kd.R_drew)); exact HO683.out) hb); have n3_ := Aside0.mk (Kd.N_elder' (by (with_reducible repeat (first | apply Kd.N_alloc | apply Kd.N_drewN | apply Kd.N_drew)); exact HO686.out) (Kd.N_base ho30) hb); have n4_ := Aside0.mk (Kd.N_lower ho30 (below_size (by repeat (first | (with_reducible first | exact HB.out | apply below_alloc | apply pw_below_drewN | apply below_drew1 | refine below_set ?_ GE687.out) | exact HB.out)))); have n5_ := Aside0.mk (blk_below (g := gb687) (o := .cells #[.slice Ao17 t681.length co17, .slice Ao19 t684.length co19] 27 (0, 0)) (by (with_reducible repeat (first | refine blk_drewN ?_ _ | refine blk_drew ?_ | refine blk_alloc ?_ _)); exact BK687.out) hb); have n6_ := Aside0.mk (below_step (by repeat (first | (with_reducible first | exact HB.out | apply below_alloc | apply pw_below_drewN | apply below_drew1 | refine below_set ?_ GE687.out) | exact HB.out)) hb); clear HO677; clear HO680; clear HO683; clear HO686; clear BK687; clear HB; clear HO690; clear HO693; clear HO696; have HO677 := n0_; have HO680 := n1_; have HO683 := n2_; have HO686 := n3_; have HO699 := n4_; have BK687 := n5_; have HB := n6_; clear n0_ n1_ n2_ n3_ n4_ n5_ n6_; clear hb ho30; have hcz31_0 : w29.cell? ⟨gb687, 0, none⟩ = some (.slice Ao17 t681.length co17) := (blk_cell BK687.out 0).trans rfl; have hcz31_1 : w29.cell? ⟨gb687, 1, none⟩ = some (.slice Ao19 t684.length co19) := (blk_cell BK687.out 1).trans rfl; have hfz31_0 := blk_frozen BK687.out 0; have hfz31_1 := blk_frozen BK687.out 1; obtain ⟨Ao32, co32, eo32⟩ := Kd.N_slice HO699.out; subst eo32) | ((with_reducible refine gate_callee (f := 51) rfl ?_); refine goesL_ (some 13) rfl rfl Try.func51 (by kernel_rfl) rfl #[.agg #[.slice Ao17 t681.length co17, .slice Ao19 t684.length co19], .slice Ao32 y697.length co32] rfl (by (try simp only [List.map_toArray, List.map_cons, List.map_nil]); first | done | rfl | (simp only [List.length_drop, List.length_take]; rfl)) ?_; (with_reducible refine (leader_Legit.calls k _ _ t681 _ _ t684 _ _ y697 true _ ?side1 ?side2 ?side3 ?side4 ?side5 ?side6 A2.out).mono ?_); (case side1 => repeat (first | exact (Kd.R_reads' HO683.out).2.2 | (with_reducible refine Kd.C_alloc ?_ _) | (with_reducible refine Kd.C_drewN ?_ _) | (with_reducible refine Kd.C_drew ?_))); (case side2 => exact (Kd.R_reads' HO683.out).2.1); (case side3 => repeat (first | exact (Kd.N_reads' HO686.out).2.2 | (with_reducible refine Kd.C_alloc ?_ _) | (with_reducible refine Kd.C_drewN ?_ _) | (with_reducible refine Kd.C_drew ?_))); (case side4 => exact (Kd.N_reads' HO686.out).2.1); (case side5 => repeat (first | exact (Kd.N_reads' HO699.out).2.2 | (with_reducible refine Kd.C_alloc ?_ _) | (with_reducible refine Kd.C_drewN ?_ _) | (with_reducible refine Kd.C_drew ?_))); (case side6 => exact (Kd.N_reads' HO699.out).2.1); rintro e w33 ⟨rfl, hb⟩; refine ⟨_, rfl, ?_⟩; have n0_ := Aside0.mk (Kd.R_below (by (with_reducible repeat (first | apply Kd.R_alloc | apply Kd.R_drewN | apply Kd.R_drew)); exact HO677.out) hb); have n1_ := Aside0.mk (Kd.R_below (by (with_reducible repeat (first | apply Kd.R_alloc | apply Kd.R_drewN | apply Kd.R_drew)); exact HO680.out) hb); have n2_ := Aside0.mk (Kd.R_below (by (with_reducible repeat (first | apply Kd.R_alloc | apply Kd.R_drewN | apply Kd.R_drew)); exact HO683.out) hb); have n3_ := Aside0.mk (Kd.N_below (by (with_reducible repeat (first | apply Kd.N_alloc | apply Kd.N_drewN | apply Kd.N_drew)); exact HO686.out) hb); have n4_ := Aside0.mk (Kd.N_below (by (with_reducible repeat (first | apply Kd.N_alloc | apply Kd.N_drewN | apply Kd.N_drew)); exact HO699.out) hb); have n5_ := Aside0.mk (blk_below (g := gb687) (o := .cells #[.slice Ao17 t681.length co17, .slice Ao19 t684.length co19] 27 (0, 0)) (by (with_reducible repeat (first | refine blk_drewN ?_ _ | refine blk_drew ?_ | refine blk_alloc ?_ _)); exact BK687.out) hb); have n6_ := Aside0.mk (below_step (by repeat (first | (with_reducible first | exact HB.out | apply below_alloc | apply pw_below_drewN | apply below_drew1 | refine below_set ?_ GE687.out) | exact HB.out)) hb); clear HO677; clear HO680; clear HO683; clear HO686; clear HO699; clear BK687; clear HB; have HO677 := n0_; have HO680 := n1_; have HO683 := n2_; have HO686 := n3_; have HO699 := n4_; have BK687 := n5_; have HB := n6_; clear n0_ n1_ n2_ n3_ n4_ n5_ n6_; (try clear hb); (try clear hb2); (try clear hk); (try clear hi); have hcz34_0 : w33.cell? ⟨gb687, 0, none⟩ = some (.slice Ao17 t681.length co17) := (blk_cell BK687.out 0).trans rfl; have hcz34_1 : w33.cell? ⟨gb687, 1, none⟩ = some (.slice Ao19 t684.length co19) := (blk_cell BK687.out 1).trans rfl; have hfz34_0 := blk_frozen BK687.out 0; have hfz34_1 := blk_frozen BK687.out 1) | (go_at_call 55; (with_reducible refine (leader_Leader.calls k _ _ t681 _ _ t684 _ _ y697 t701 _ ?side1 ?side2 ?side3 ?side4 ?side5 ?side6 A4.out).mono ?_); (case side1 => repeat (first | exact (Kd.R_reads' HO683.out).2.2 | (with_reducible refine Kd.C_alloc ?_ _) | (with_reducible refine Kd.C_drewN ?_ _) | (with_reducible refine Kd.C_drew ?_))); (case side2 => exact (Kd.R_reads' HO683.out).2.1); (case side3 => repeat (first | exact (Kd.N_reads' HO686.out).2.2 | (with_reducible refine Kd.C_alloc ?_ _) | (with_reducible refine Kd.C_drewN ?_ _) | (with_reducible refine Kd.C_drew ?_))); (case side4 => exact (Kd.N_reads' HO686.out).2.1); (case side5 => repeat (first | exact (Kd.N_reads' HO699.out).2.2 | (with_reducible refine Kd.C_alloc ?_ _) | (with_reducible refine Kd.C_drewN ?_ _) | (with_reducible refine Kd.C_drew ?_))); (case side6 => exact (Kd.N_reads' HO699.out).2.1); rintro e w35 ⟨rfl, hb⟩; have n0_ := Aside0.mk (Kd.R_below (by (with_reducible repeat (first | apply Kd.R_alloc | apply Kd.R_drewN | apply Kd.R_drew)); exact HO677.out) hb); have n1_ := Aside0.mk (Kd.R_below (by (with_reducible repeat (first | apply Kd.R_alloc | apply Kd.R_drewN | apply Kd.R_drew)); exact HO680.out) hb); have n2_ := Aside0.mk (Kd.R_below (by (with_reducible repeat (first | apply Kd.R_alloc | apply Kd.R_drewN | apply Kd.R_drew)); exact HO683.out) hb); have n3_ := Aside0.mk (Kd.N_below (by (with_reducible repeat (first | apply Kd.N_alloc | apply Kd.N_drewN | apply Kd.N_drew)); exact HO686.out) hb); have n4_ := Aside0.mk (Kd.N_below (by (with_reducible repeat (first | apply Kd.N_alloc | apply Kd.N_drewN | apply Kd.N_drew)); exact HO699.out) hb); have n5_ := Aside0.mk (blk_below (g := gb687) (o := .cells #[.slice Ao17 t681.length co17, .slice Ao19 t684.length co19] 27 (0, 0)) (by (with_reducible repeat (first | refine blk_drewN ?_ _ | refine blk_drew ?_ | refine blk_alloc ?_ _)); exact BK687.out) hb); have n6_ := Aside0.mk (below_step (by repeat (first | (with_reducible first | exact HB.out | apply below_alloc | apply pw_below_drewN | apply below_drew1 | refine below_set ?_ GE687.out) | exact HB.out)) hb); clear HO677; clear HO680; clear HO683; clear HO686; clear HO699; clear BK687; clear HB; have HO677 := n0_; have HO680 := n1_; have HO683 := n2_; have HO686 := n3_; have HO699 := n4_; have BK687 := n5_; have HB := n6_; clear n0_ n1_ n2_ n3_ n4_ n5_ n6_; (try clear hb); (try clear hb2); (try clear hk); (try clear hi); have hcz36_0 : w35.cell? ⟨gb687, 0, none⟩ = some (.slice Ao17 t681.length co17) := (blk_cell BK687.out 0).trans rfl; have hcz36_1 : w35.cell? ⟨gb687, 1, none⟩ = some (.slice Ao19 t684.length co19) := (blk_cell BK687.out 1).trans rfl; have hfz36_0 := blk_frozen BK687.out 0; have hfz36_1 := blk_frozen BK687.out 1) | ((with_reducible refine gate_dst (N := 22) rfl ?_); (try (refine gate_guard (by rfl) ?_; dsimp only)); refine Kd.R_lit (Kd.int .i64) _ 3 ?hg (N := 22) ?hd (xs := ([5, 0, (-1)] : List Int)) (inner := [.int .i64 5, .int .i64 0, .int .i64 (-1)]) (ok := fun _ => True) (okp := fun _ => True) ?hr ?hp (fun _ hk => hk) trivial (Below.refl _ _) (Nat.le_refl _) (by simp) ?_; (case hd => rfl); (case hg => rfl); (case hr => first | (go_simp; done) | (go_simp; rfl)); (case hp => exact (Reps.one (show Kd.M (Kd.int .i64) _ _ _ 5 [.int .i64 5] from rfl) (Reps.one (show Kd.M (Kd.int .i64) _ _ _ 0 [.int .i64 0] from rfl) (Reps.one (show Kd.M (Kd.int .i64) _ _ _ (-1) [.int .i64 (-1)] from rfl) (Reps.none _ _))))); intro v703 w37 ho38 hb hg_ hnew_; clear hg_ hnew_; (first | rw [← Ny702.out] at ho38 | (simp only [Int.reduceToNat] at ho38; rw [← Ny702.out] at ho38)); have n0_ := Aside0.mk (Kd.R_elder' (by (with_reducible repeat (first | apply Kd.R_alloc | apply Kd.R_drewN | apply Kd.R_drew)); exact HO677.out) (Kd.R_base ho38) hb); have n1_ := Aside0.mk (Kd.R_elder' (by (with_reducible repeat (first | apply Kd.R_alloc | apply Kd.R_drewN | apply Kd.R_drew)); exact HO680.out) (Kd.R_base ho38) hb); have n2_ := Aside0.mk (Kd.R_elder' (by (with_reducible repeat (first | apply Kd.R_alloc | apply Kd.R_drewN | apply Kd.R_drew)); exact HO683.out) (Kd.R_base ho38) hb); have n3_ := Aside0.mk (Kd.N_elder' (by (with_reducible repeat (first | apply Kd.N_alloc | apply Kd.N_drewN | apply Kd.N_drew)); exact HO686.out) (Kd.R_base ho38) hb); have n4_ := Aside0.mk (Kd.N_elder' (by (with_reducible repeat (first | apply Kd.N_alloc | apply Kd.N_drewN | apply Kd.N_drew)); exact HO699.out) (Kd.R_base ho38) hb); have n5_ := Aside0.mk (Kd.R_lower (Kd.R_new' (Kd.R_new' (Kd.R_new' ho38 (Kd.R_lt (by (with_reducible repeat (first | apply Kd.R_alloc | apply Kd.R_drewN | apply Kd.R_drew)); exact HO677.out))) (Kd.R_lt (by (with_reducible repeat (first | apply Kd.R_alloc | apply Kd.R_drewN | apply Kd.R_drew)); exact HO680.out))) (Kd.R_lt (by (with_reducible repeat (first | apply Kd.R_alloc | apply Kd.R_drewN | apply Kd.R_drew)); exact HO683.out))) (below_size (by repeat (first | (with_reducible first | exact HB.out | apply below_alloc | apply pw_below_drewN | apply below_drew1 | refine below_set ?_ GE687.out) | exact HB.out)))); have n6_ := Aside0.mk (blk_below (g := gb687) (o := .cells #[.slice Ao17 t681.length co17, .slice Ao19 t684.length co19] 27 (0, 0)) (by (with_reducible repeat (first | refine blk_drewN ?_ _ | refine blk_drew ?_ | refine blk_alloc ?_ _)); exact BK687.out) hb); have n7_ := Aside0.mk (below_step (by repeat (first | (with_reducible first | exact HB.out | apply below_alloc | apply pw_below_drewN | apply below_drew1 | refine below_set ?_ GE687.out) | exact HB.out)) hb); clear HO677; clear HO680; clear HO683; clear HO686; clear HO699; clear BK687; clear HB; have HO677 := n0_; have HO680 := n1_; have HO683 := n2_; have HO686 := n3_; have HO699 := n4_; have HO704 := n5_; have BK687 := n6_; have HB := n7_; clear n0_ n1_ n2_ n3_ n4_ n5_ n6_ n7_; clear hb ho38) | ((with_reducible refine gate_dst (N := 23) rfl ?_); (try (refine gate_guard (by rfl) ?_; dsimp only)); refine Kd.R_lit (Kd.int .i64) _ 3 ?hg (N := 23) ?hd (xs := ([5, 1, 1] : List Int)) (inner := [.int .i64 5, .int .i64 1, .int .i64 1]) (ok := fun _ => True) (okp := fun _ => True) ?hr ?hp (fun _ hk => hk) trivial (Below.refl _ _) (Nat.le_refl _) (by simp) ?_; (case hd => rfl); (case hg => rfl); (case hr => first | (go_simp; done) | (go_simp; rfl)); (case hp => exact (Reps.one (show Kd.M (Kd.int .i64) _ _ _ 5 [.int .i64 5] from rfl) (Reps.one (show Kd.M (Kd.int .i64) _ _ _ 1 [.int .i64 1] from rfl) (Reps.one (show Kd.M (Kd.int .i64) _ _ _ 1 [.int .i64 1] from rfl) (Reps.none _ _))))); intro v706 w39 ho40 hb hg_ hnew_; clear hg_ hnew_; (first | rw [← Ny705.out] at ho40 | (simp only [Int.reduceToNat] at ho40; rw [← Ny705.out] at ho40)); have n0_ := Aside0.mk (Kd.R_elder' (by (with_reducible repeat (first | apply Kd.R_alloc | apply Kd.R_drewN | apply Kd.R_drew)); exact HO677.out) (Kd.R_base ho40) hb); have n1_ := Aside0.mk (Kd.R_elder' (by (with_reducible repeat (first | apply Kd.R_alloc | apply Kd.R_drewN | apply Kd.R_drew)); exact HO680.out) (Kd.R_base ho40) hb); have n2_ := Aside0.mk (Kd.R_elder' (by (with_reducible repeat (first | apply Kd.R_alloc | apply Kd.R_drewN | apply Kd.R_drew)); exact HO683.out) (Kd.R_base ho40) hb); have n3_ := Aside0.mk (Kd.N_elder' (by (with_reducible repeat (first | apply Kd.N_alloc | apply Kd.N_drewN | apply Kd.N_drew)); exact HO686.out) (Kd.R_base ho40) hb); have n4_ := Aside0.mk (Kd.N_elder' (by (with_reducible repeat (first | apply Kd.N_alloc | apply Kd.N_drewN | apply Kd.N_drew)); exact HO699.out) (Kd.R_base ho40) hb); have n5_ := Aside0.mk (Kd.R_elder' (by (with_reducible repeat (first | apply Kd.R_alloc | apply Kd.R_drewN | apply Kd.R_drew)); exact HO704.out) (Kd.R_base ho40) hb); have n6_ := Aside0.mk (Kd.R_lower (Kd.R_new' (Kd.R_new' (Kd.R_new' (Kd.R_new' ho40 (Kd.R_lt (by (with_reducible repeat (first | apply Kd.R_alloc | apply Kd.R_drewN | apply Kd.R_drew)); exact HO677.out))) (Kd.R_lt (by (with_reducible repeat (first | apply Kd.R_alloc | apply Kd.R_drewN | apply Kd.R_drew)); exact HO680.out))) (Kd.R_lt (by (with_reducible repeat (first | apply Kd.R_alloc | apply Kd.R_drewN | apply Kd.R_drew)); exact HO683.out))) (Kd.R_lt (by (with_reducible repeat (first | apply Kd.R_alloc | apply Kd.R_drewN | apply Kd.R_drew)); exact HO704.out))) (below_size (by repeat (first | (with_reducible first | exact HB.out | apply below_alloc | apply pw_below_drewN | apply below_drew1 | refine below_set ?_ GE687.out) | exact HB.out)))); have n7_ := Aside0.mk (blk_below (g := gb687) (o := .cells #[.slice Ao17 t681.length co17, .slice Ao19 t684.length co19] 27 (0, 0)) (by (with_reducible repeat (first | refine blk_drewN ?_ _ | refine blk_drew ?_ | refine blk_alloc ?_ _)); exact BK687.out) hb); have n8_ := Aside0.mk (below_step (by repeat (first | (with_reducible first | exact HB.out | apply below_alloc | apply pw_below_drewN | apply below_drew1 | refine below_set ?_ GE687.out) | exact HB.out)) hb); clear HO677; clear HO680; clear HO683; clear HO686; clear HO699; clear HO704; clear BK687; clear HB; have HO677 := n0_; have HO680 := n1_; have HO683 := n2_; have HO686 := n3_; have HO699 := n4_; have HO704 := n5_; have HO707 := n6_; have BK687 := n7_; have HB := n8_; clear n0_ n1_ n2_ n3_ n4_ n5_ n6_ n7_ n8_; clear hb ho40) | ((with_reducible refine gate_dst (N := 24) rfl ?_); (try (refine gate_guard (by rfl) ?_; dsimp only)); refine Kd.R_lit (Kd.int .i64) _ 3 ?hg (N := 24) ?hd (xs := ([5, 2, 0] : List Int)) (inner := [.int .i64 5, .int .i64 2, .int .i64 0]) (ok := fun _ => True) (okp := fun _ => True) ?hr ?hp (fun _ hk => hk) trivial (Below.refl _ _) (Nat.le_refl _) (by simp) ?_; (case hd => rfl); (case hg => rfl); (case hr => first | (go_simp; done) | (go_simp; rfl)); (case hp => exact (Reps.one (show Kd.M (Kd.int .i64) _ _ _ 5 [.int .i64 5] from rfl) (Reps.one (show Kd.M (Kd.int .i64) _ _ _ 2 [.int .i64 2] from rfl) (Reps.one (show Kd.M (Kd.int .i64) _ _ _ 0 [.int .i64 0] from rfl) (Reps.none _ _))))); intro v709 w41 ho42 hb hg_ hnew_; clear hg_ hnew_; (first | rw [← Ny708.out] at ho42 | (simp only [Int.reduceToNat] at ho42; rw [← Ny708.out] at ho42)); have n0_ := Aside0.mk (Kd.R_elder' (by (with_reducible repeat (first | apply Kd.R_alloc | apply Kd.R_drewN | apply Kd.R_drew)); exact HO677.out) (Kd.R_base ho42) hb); have n1_ := Aside0.mk (Kd.R_elder' (by (with_reducible repeat (first | apply Kd.R_alloc | apply Kd.R_drewN | apply Kd.R_drew)); exact HO680.out) (Kd.R_base ho42) hb); have n2_ := Aside0.mk (Kd.R_elder' (by (with_reducible repeat (first | apply Kd.R_alloc | apply Kd.R_drewN | apply Kd.R_drew)); exact HO683.out) (Kd.R_base ho42) hb); have n3_ := Aside0.mk (Kd.N_elder' (by (with_reducible repeat (first | apply Kd.N_alloc | apply Kd.N_drewN | apply Kd.N_drew)); exact HO686.out) (Kd.R_base ho42) hb); have n4_ := Aside0.mk (Kd.N_elder' (by (with_reducible repeat (first | apply Kd.N_alloc | apply Kd.N_drewN | apply Kd.N_drew)); exact HO699.out) (Kd.R_base ho42) hb); have n5_ := Aside0.mk (Kd.R_elder' (by (with_reducible repeat (first | apply Kd.R_alloc | apply Kd.R_drewN | apply Kd.R_drew)); exact HO704.out) (Kd.R_base ho42) hb); have n6_ := Aside0.mk (Kd.R_elder' (by (with_reducible repeat (first | apply Kd.R_alloc | apply Kd.R_drewN | apply Kd.R_drew)); exact HO707.out) (Kd.R_base ho42) hb); have n7_ := Aside0.mk (Kd.R_lower (Kd.R_new' (Kd.R_new' (Kd.R_new' (Kd.R_new' (Kd.R_new' ho42 (Kd.R_lt (by (with_reducible repeat (first | apply Kd.R_alloc | apply Kd.R_drewN | apply Kd.R_drew)); exact HO677.out))) (Kd.R_lt (by (with_reducible repeat (first | apply Kd.R_alloc | apply Kd.R_drewN | apply Kd.R_drew)); exact HO680.out))) (Kd.R_lt (by (with_reducible repeat (first | apply Kd.R_alloc | apply Kd.R_drewN | apply Kd.R_drew)); exact HO683.out))) (Kd.R_lt (by (with_reducible repeat (first | apply Kd.R_alloc | apply Kd.R_drewN | apply Kd.R_drew)); exact HO704.out))) (Kd.R_lt (by (with_reducible repeat (first | apply Kd.R_alloc | apply Kd.R_drewN | apply Kd.R_drew)); exact HO707.out))) (below_size (by repeat (first | (with_reducible first | exact HB.out | apply below_alloc | apply pw_below_drewN | apply below_drew1 | refine below_set ?_ GE687.out) | exact HB.out)))); have n8_ := Aside0.mk (blk_below (g := gb687) (o := .cells #[.slice Ao17 t681.length co17, .slice Ao19 t684.length co19] 27 (0, 0)) (by (with_reducible repeat (first | refine blk_drewN ?_ _ | refine blk_drew ?_ | refine blk_alloc ?_ _)); exact BK687.out) hb); have n9_ := Aside0.mk (below_step (by repeat (first | (with_reducible first | exact HB.out | apply below_alloc | apply pw_below_drewN | apply below_drew1 | refine below_set ?_ GE687.out) | exact HB.out)) hb); clear HO677; clear HO680; clear HO683; clear HO686; clear HO699; clear HO704; clear HO707; clear BK687; clear HB; have HO677 := n0_; have HO680 := n1_; have HO683 := n2_; have HO686 := n3_; have HO699 := n4_; have HO704 := n5_; have HO707 := n6_; have HO710 := n7_; have BK687 := n8_; have HB := n9_; clear n0_ n1_ n2_ n3_ n4_ n5_ n6_ n7_ n8_ n9_; clear hb ho42; obtain ⟨Ao43, co43, eo43⟩ := Kd.R_slice HO704.out; subst eo43; obtain ⟨Ao44, co44, eo44⟩ := Kd.R_slice HO707.out; subst eo44; obtain ⟨Ao45, co45, eo45⟩ := Kd.R_slice HO710.out; subst eo45) | ((with_reducible refine gate_dst (N := 25) rfl ?_); (try (refine gate_guard (by rfl) ?_; dsimp only)); refine Kd.N_lit (Kd.slice 3 (Kd.int .i64)) _ 22 ?hg (N' := 25) ?hd (xs := ([y702, y705, y708] : List (List Int))) (inner := [.slice Ao43 y702.length co43, .slice Ao44 y705.length co44, .slice Ao45 y708.length co45]) (ok := (fun k_ => some k_ ≠ (.slice Ao14 y675.length co14 : Value).ownBlock ∧ some k_ ≠ (.slice Ao13 y678.length co13 : Value).ownBlock ∧ some k_ ≠ (.slice Ao17 t681.length co17 : Value).ownBlock ∧ some k_ ≠ (.slice Ao19 t684.length co19 : Value).ownBlock ∧ some k_ ≠ (.slice Ao32 y697.length co32 : Value).ownBlock ∧ k_ ≠ gb687)) (okp := (fun k_ => some k_ ≠ (.slice Ao14 y675.length co14 : Value).ownBlock ∧ some k_ ≠ (.slice Ao13 y678.length co13 : Value).ownBlock ∧ some k_ ≠ (.slice Ao17 t681.length co17 : Value).ownBlock ∧ some k_ ≠ (.slice Ao19 t684.length co19 : Value).ownBlock ∧ some k_ ≠ (.slice Ao32 y697.length co32 : Value).ownBlock ∧ k_ ≠ gb687)) ?hr ?hp (fun _ hk => hk) ((show ∀ k_, w41.heap.size ≤ k_ → (fun k_ => some k_ ≠ (.slice Ao14 y675.length co14 : Value).ownBlock ∧ some k_ ≠ (.slice Ao13 y678.length co13 : Value).ownBlock ∧ some k_ ≠ (.slice Ao17 t681.length co17 : Value).ownBlock ∧ some k_ ≠ (.slice Ao19 t684.length co19 : Value).ownBlock ∧ some k_ ≠ (.slice Ao32 y697.length co32 : Value).ownBlock ∧ k_ ≠ gb687) k_ from fun k_ hk => ⟨Kd.fresh' (Kd.R_lt (by (with_reducible repeat (first | apply Kd.R_alloc | apply Kd.R_drewN | apply Kd.R_drew)); exact HO677.out)) k_ hk, Kd.fresh' (Kd.R_lt (by (with_reducible repeat (first | apply Kd.R_alloc | apply Kd.R_drewN | apply Kd.R_drew)); exact HO680.out)) k_ hk, Kd.fresh' (Kd.R_lt (by (with_reducible repeat (first | apply Kd.R_alloc | apply Kd.R_drewN | apply Kd.R_drew)); exact HO683.out)) k_ hk, Kd.fresh' (Kd.N_lt (by (with_reducible repeat (first | apply Kd.N_alloc | apply Kd.N_drewN | apply Kd.N_drew)); exact HO686.out)) k_ hk, Kd.fresh' (Kd.N_lt (by (with_reducible repeat (first | apply Kd.N_alloc | apply Kd.N_drewN | apply Kd.N_drew)); exact HO699.out)) k_ hk, Kd.freshB (g := gb687) (o := .cells #[.slice Ao17 t681.length co17, .slice Ao19 t684.length co19] 27 (0, 0)) (by (with_reducible repeat (first | refine blk_drewN ?_ _ | refine blk_drew ?_ | refine blk_alloc ?_ _)); exact BK687.out) k_ hk⟩) _ (Nat.le_refl _)) (Below.refl _ _) (Nat.le_refl _) (by simp) ?_; (case hd => rfl); (case hg => rfl); (case hr => first | (go_simp; done) | (go_simp; rfl)); (case hp => exact (Reps.one (show Kd.FK (Kd.slice 3 (Kd.int .i64)) _ _ y702 [.slice Ao43 y702.length co43] from (Kd.FK_slice_mk (Kd.R_reads' (Kd.R_mono (ok' := (fun k_ => some k_ ≠ (.slice Ao14 y675.length co14 : Value).ownBlock ∧ some k_ ≠ (.slice Ao13 y678.length co13 : Value).ownBlock ∧ some k_ ≠ (.slice Ao17 t681.length co17 : Value).ownBlock ∧ some k_ ≠ (.slice Ao19 t684.length co19 : Value).ownBlock ∧ some k_ ≠ (.slice Ao32 y697.length co32 : Value).ownBlock ∧ k_ ≠ gb687)) (Kd.R_types (Kd.R_apart' (Kd.R_apart' (HO704.out) (Kd.N_typed HO686.out) (by decide)) (Kd.N_typed HO699.out) (by decide)) BK687.out (by decide)) (fun k_ hk => ⟨hk.1.1.1.1.1.1.1.2, ⟨hk.1.1.1.1.1.1.2, ⟨hk.1.1.1.1.1.2, ⟨hk.1.1.2, ⟨hk.1.2, hk.2⟩⟩⟩⟩⟩))).2.1 (Kd.R_F (Kd.R_mono (ok' := (fun k_ => some k_ ≠ (.slice Ao14 y675.length co14 : Value).ownBlock ∧ some k_ ≠ (.slice Ao13 y678.length co13 : Value).ownBlock ∧ some k_ ≠ (.slice Ao17 t681.length co17 : Value).ownBlock ∧ some k_ ≠ (.slice Ao19 t684.length co19 : Value).ownBlock ∧ some k_ ≠ (.slice Ao32 y697.length co32 : Value).ownBlock ∧ k_ ≠ gb687)) (Kd.R_types (Kd.R_apart' (Kd.R_apart' (HO704.out) (Kd.N_typed HO686.out) (by decide)) (Kd.N_typed HO699.out) (by decide)) BK687.out (by decide)) (fun k_ hk => ⟨hk.1.1.1.1.1.1.1.2, ⟨hk.1.1.1.1.1.1.2, ⟨hk.1.1.1.1.1.2, ⟨hk.1.1.2, ⟨hk.1.2, hk.2⟩⟩⟩⟩⟩))))) (Reps.one (show Kd.FK (Kd.slice 3 (Kd.int .i64)) _ _ y705 [.slice Ao44 y705.length co44] from (Kd.FK_slice_mk (Kd.R_reads' (Kd.R_mono (ok' := (fun k_ => some k_ ≠ (.slice Ao14 y675.length co14 : Value).ownBlock ∧ some k_ ≠ (.slice Ao13 y678.length co13 : Value).ownBlock ∧ some k_ ≠ (.slice Ao17 t681.length co17 : Value).ownBlock ∧ some k_ ≠ (.slice Ao19 t684.length co19 : Value).ownBlock ∧ some k_ ≠ (.slice Ao32 y697.length co32 : Value).ownBlock ∧ k_ ≠ gb687)) (Kd.R_types (Kd.R_apart' (Kd.R_apart' (HO707.out) (Kd.N_typed HO686.out) (by decide)) (Kd.N_typed HO699.out) (by decide)) BK687.out (by decide)) (fun k_ hk => ⟨hk.1.1.1.1.1.1.1.2, ⟨hk.1.1.1.1.1.1.2, ⟨hk.1.1.1.1.1.2, ⟨hk.1.1.2, ⟨hk.1.2, hk.2⟩⟩⟩⟩⟩))).2.1 (Kd.R_F (Kd.R_mono (ok' := (fun k_ => some k_ ≠ (.slice Ao14 y675.length co14 : Value).ownBlock ∧ some k_ ≠ (.slice Ao13 y678.length co13 : Value).ownBlock ∧ some k_ ≠ (.slice Ao17 t681.length co17 : Value).ownBlock ∧ some k_ ≠ (.slice Ao19 t684.length co19 : Value).ownBlock ∧ some k_ ≠ (.slice Ao32 y697.length co32 : Value).ownBlock ∧ k_ ≠ gb687)) (Kd.R_types (Kd.R_apart' (Kd.R_apart' (HO707.out) (Kd.N_typed HO686.out) (by decide)) (Kd.N_typed HO699.out) (by decide)) BK687.out (by decide)) (fun k_ hk => ⟨hk.1.1.1.1.1.1.1.2, ⟨hk.1.1.1.1.1.1.2, ⟨hk.1.1.1.1.1.2, ⟨hk.1.1.2, ⟨hk.1.2, hk.2⟩⟩⟩⟩⟩))))) (Reps.one (show Kd.FK (Kd.slice 3 (Kd.int .i64)) _ _ y708 [.slice Ao45 y708.length co45] from (Kd.FK_slice_mk (Kd.R_reads' (Kd.R_mono (ok' := (fun k_ => some k_ ≠ (.slice Ao14 y675.length co14 : Value).ownBlock ∧ some k_ ≠ (.slice Ao13 y678.length co13 : Value).ownBlock ∧ some k_ ≠ (.slice Ao17 t681.length co17 : Value).ownBlock ∧ some k_ ≠ (.slice Ao19 t684.length co19 : Value).ownBlock ∧ some k_ ≠ (.slice Ao32 y697.length co32 : Value).ownBlock ∧ k_ ≠ gb687)) (Kd.R_types (Kd.R_apart' (Kd.R_apart' (HO710.out) (Kd.N_typed HO686.out) (by decide)) (Kd.N_typed HO699.out) (by decide)) BK687.out (by decide)) (fun k_ hk => ⟨hk.1.1.1.1.1.1.1.2, ⟨hk.1.1.1.1.1.1.2, ⟨hk.1.1.1.1.1.2, ⟨hk.1.1.2, ⟨hk.1.2, hk.2⟩⟩⟩⟩⟩))).2.1 (Kd.R_F (Kd.R_mono (ok' := (fun k_ => some k_ ≠ (.slice Ao14 y675.length co14 : Value).ownBlock ∧ some k_ ≠ (.slice Ao13 y678.length co13 : Value).ownBlock ∧ some k_ ≠ (.slice Ao17 t681.length co17 : Value).ownBlock ∧ some k_ ≠ (.slice Ao19 t684.length co19 : Value).ownBlock ∧ some k_ ≠ (.slice Ao32 y697.length co32 : Value).ownBlock ∧ k_ ≠ gb687)) (Kd.R_types (Kd.R_apart' (Kd.R_apart' (HO710.out) (Kd.N_typed HO686.out) (by decide)) (Kd.N_typed HO699.out) (by decide)) BK687.out (by decide)) (fun k_ hk => ⟨hk.1.1.1.1.1.1.1.2, ⟨hk.1.1.1.1.1.1.2, ⟨hk.1.1.1.1.1.2, ⟨hk.1.1.2, ⟨hk.1.2, hk.2⟩⟩⟩⟩⟩))))) (Reps.none _ _))))); intro v712 w46 ho47 hb hg_ hnew_; clear hg_ hnew_; (first | rw [← Ny711.out] at ho47 | (simp only [Int.reduceToNat] at ho47; rw [← Ny711.out] at ho47)); have n0_ := Aside0.mk (Kd.R_below (by (with_reducible repeat (first | apply Kd.R_alloc | apply Kd.R_drewN | apply Kd.R_drew)); exact HO677.out) hb); have n1_ := Aside0.mk (Kd.R_below (by (with_reducible repeat (first | apply Kd.R_alloc | apply Kd.R_drewN | apply Kd.R_drew)); exact HO680.out) hb); have n2_ := Aside0.mk (Kd.R_below (by (with_reducible repeat (first | apply Kd.R_alloc | apply Kd.R_drewN | apply Kd.R_drew)); exact HO683.out) hb); have n3_ := Aside0.mk (Kd.N_elder' (by (with_reducible repeat (first | apply Kd.N_alloc | apply Kd.N_drewN | apply Kd.N_drew)); exact HO686.out) (Kd.N_base ho47) hb); have n4_ := Aside0.mk (Kd.N_elder' (by (with_reducible repeat (first | apply Kd.N_alloc | apply Kd.N_drewN | apply Kd.N_drew)); exact HO699.out) (Kd.N_base ho47) hb); have n5_ := Aside0.mk (Kd.N_lower ho47 (below_size (by repeat (first | (with_reducible first | exact HB.out | apply below_alloc | apply pw_below_drewN | apply below_drew1 | refine below_set ?_ GE687.out) | exact HB.out)))); have n6_ := Aside0.mk (blk_below (g := gb687) (o := .cells #[.slice Ao17 t681.length co17, .slice Ao19 t684.length co19] 27 (0, 0)) (by (with_reducible repeat (first | refine blk_drewN ?_ _ | refine blk_drew ?_ | refine blk_alloc ?_ _)); exact BK687.out) hb); have n7_ := Aside0.mk (below_step (by repeat (first | (with_reducible first | exact HB.out | apply below_alloc | apply pw_below_drewN | apply below_drew1 | refine below_set ?_ GE687.out) | exact HB.out)) hb); clear HO677; clear HO680; clear HO683; clear HO686; clear HO699; clear BK687; clear HB; clear HO704; clear HO707; clear HO710; have HO677 := n0_; have HO680 := n1_; have HO683 := n2_; have HO686 := n3_; have HO699 := n4_; have HO713 := n5_; have BK687 := n6_; have HB := n7_; clear n0_ n1_ n2_ n3_ n4_ n5_ n6_ n7_; clear hb ho47; obtain ⟨Ao48, co48, eo48⟩ := Kd.N_slice HO713.out; subst eo48) | (go_at_call 55; (with_reducible refine (leader_Leader.calls k _ _ t681 _ _ t684 _ _ y711 t714 _ ?side1 ?side2 ?side3 ?side4 ?side5 ?side6 A6.out).mono ?_); (case side1 => repeat (first | exact (Kd.R_reads' HO683.out).2.2 | (with_reducible refine Kd.C_alloc ?_ _) | (with_reducible refine Kd.C_drewN ?_ _) | (with_reducible refine Kd.C_drew ?_))); (case side2 => exact (Kd.R_reads' HO683.out).2.1); (case side3 => repeat (first | exact (Kd.N_reads' HO686.out).2.2 | (with_reducible refine Kd.C_alloc ?_ _) | (with_reducible refine Kd.C_drewN ?_ _) | (with_reducible refine Kd.C_drew ?_))); (case side4 => exact (Kd.N_reads' HO686.out).2.1); (case side5 => repeat (first | exact (Kd.N_reads' HO713.out).2.2 | (with_reducible refine Kd.C_alloc ?_ _) | (with_reducible refine Kd.C_drewN ?_ _) | (with_reducible refine Kd.C_drew ?_))); (case side6 => exact (Kd.N_reads' HO713.out).2.1); rintro e w49 ⟨rfl, hb⟩; have n0_ := Aside0.mk (Kd.R_below (by (with_reducible repeat (first | apply Kd.R_alloc | apply Kd.R_drewN | apply Kd.R_drew)); exact HO677.out) hb); have n1_ := Aside0.mk (Kd.R_below (by (with_reducible repeat (first | apply Kd.R_alloc | apply Kd.R_drewN | apply Kd.R_drew)); exact HO680.out) hb); have n2_ := Aside0.mk (Kd.R_below (by (with_reducible repeat (first | apply Kd.R_alloc | apply Kd.R_drewN | apply Kd.R_drew)); exact HO683.out) hb); have n3_ := Aside0.mk (Kd.N_below (by (with_reducible repeat (first | apply Kd.N_alloc | apply Kd.N_drewN | apply Kd.N_drew)); exact HO686.out) hb); have n4_ := Aside0.mk (Kd.N_below (by (with_reducible repeat (first | apply Kd.N_alloc | apply Kd.N_drewN | apply Kd.N_drew)); exact HO699.out) hb); have n5_ := Aside0.mk (Kd.N_below (by (with_reducible repeat (first | apply Kd.N_alloc | apply Kd.N_drewN | apply Kd.N_drew)); exact HO713.out) hb); have n6_ := Aside0.mk (blk_below (g := gb687) (o := .cells #[.slice Ao17 t681.length co17, .slice Ao19 t684.length co19] 27 (0, 0)) (by (with_reducible repeat (first | refine blk_drewN ?_ _ | refine blk_drew ?_ | refine blk_alloc ?_ _)); exact BK687.out) hb); have n7_ := Aside0.mk (below_step (by repeat (first | (with_reducible first | exact HB.out | apply below_alloc | apply pw_below_drewN | apply below_drew1 | refine below_set ?_ GE687.out) | exact HB.out)) hb); clear HO677; clear HO680; clear HO683; clear HO686; clear HO699; clear HO713; clear BK687; clear HB; have HO677 := n0_; have HO680 := n1_; have HO683 := n2_; have HO686 := n3_; have HO699 := n4_; have HO713 := n5_; have BK687 := n6_; have HB := n7_; clear n0_ n1_ n2_ n3_ n4_ n5_ n6_ n7_; (try clear hb); (try clear hb2); (try clear hk); (try clear hi); have hcz50_0 : w49.cell? ⟨gb687, 0, none⟩ = some (.slice Ao17 t681.length co17) := (blk_cell BK687.out 0).trans rfl; have hcz50_1 : w49.cell? ⟨gb687, 1, none⟩ = some (.slice Ao19 t684.length co19) := (blk_cell BK687.out 1).trans rfl; have hfz50_0 := blk_frozen BK687.out 0; have hfz50_1 := blk_frozen BK687.out 1) | (go_at_call 53; (with_reducible refine (leader_Claim.calls k _ _ t681 _ _ t684 t715 t716 t717 t718 t719 _ ?side1 ?side2 ?side3 ?side4 A8.out).mono ?_); (case side1 => repeat (first | exact (Kd.R_reads' HO683.out).2.2 | (with_reducible refine Kd.C_alloc ?_ _) | (with_reducible refine Kd.C_drewN ?_ _) | (with_reducible refine Kd.C_drew ?_))); (case side2 => exact (Kd.R_reads' HO683.out).2.1); (case side3 => repeat (first | exact (Kd.N_reads' HO686.out).2.2 | (with_reducible refine Kd.C_alloc ?_ _) | (with_reducible refine Kd.C_drewN ?_ _) | (with_reducible refine Kd.C_drew ?_))); (case side4 => exact (Kd.N_reads' HO686.out).2.1); rintro e w51 ⟨rfl, hb⟩; have n0_ := Aside0.mk (Kd.R_below (by (with_reducible repeat (first | apply Kd.R_alloc | apply Kd.R_drewN | apply Kd.R_drew)); exact HO677.out) hb); have n1_ := Aside0.mk (Kd.R_below (by (with_reducible repeat (first | apply Kd.R_alloc | apply Kd.R_drewN | apply Kd.R_drew)); exact HO680.out) hb); have n2_ := Aside0.mk (Kd.R_below (by (with_reducible repeat (first | apply Kd.R_alloc | apply Kd.R_drewN | apply Kd.R_drew)); exact HO683.out) hb); have n3_ := Aside0.mk (Kd.N_below (by (with_reducible repeat (first | apply Kd.N_alloc | apply Kd.N_drewN | apply Kd.N_drew)); exact HO686.out) hb); have n4_ := Aside0.mk (Kd.N_below (by (with_reducible repeat (first | apply Kd.N_alloc | apply Kd.N_drewN | apply Kd.N_drew)); exact HO699.out) hb); have n5_ := Aside0.mk (Kd.N_below (by (with_reducible repeat (first | apply Kd.N_alloc | apply Kd.N_drewN | apply Kd.N_drew)); exact HO713.out) hb); have n6_ := Aside0.mk (blk_below (g := gb687) (o := .cells #[.slice Ao17 t681.length co17, .slice Ao19 t684.length co19] 27 (0, 0)) (by (with_reducible repeat (first | refine blk_drewN ?_ _ | refine blk_drew ?_ | refine blk_alloc ?_ _)); exact BK687.out) hb); have n7_ := Aside0.mk (below_step (by repeat (first | (with_reducible first | exact HB.out | apply below_alloc | apply pw_below_drewN | apply below_drew1 | refine below_set ?_ GE687.out) | exact HB.out)) hb); clear HO677; clear HO680; clear HO683; clear HO686; clear HO699; clear HO713; clear BK687; clear HB; have HO677 := n0_; have HO680 := n1_; have HO683 := n2_; have HO686 := n3_; have HO699 := n4_; have HO713 := n5_; have BK687 := n6_; have HB := n7_; clear n0_ n1_ n2_ n3_ n4_ n5_ n6_ n7_; (try clear hb); (try clear hb2); (try clear hk); (try clear hi)))
    go_ret
    exact ⟨by first | rfl | (simp [errW_none, errW_some] <;> rfl) | (simp [*, errW_none, errW_some] <;> rfl), by repeat (first | (with_reducible first | exact HB.out | apply below_alloc | apply pw_below_drewN | apply below_drew1 | refine below_set ?_ GE687.out) | exact HB.out)⟩
   ·
    rw [if_neg c7] at H
    exact absurd H (by simp)
  ·
   rw [if_neg c5] at H
   exact absurd H (by simp)
 ·
  replace c3 := Bool.eq_false_iff.mpr c3
  subst c3
  have H1 : (none) = some r := by rw [if_neg (show ¬ (false = true) by decide)] at H; exact H
  clear H
  have H := H1
  clear H1
  exact absurd H (by simp)
end Go.Proofs.YthapikakneikbaaG
namespace Go.Proofs.YthapikakneikbaaG
open Go.RowKit Go.Proofs.YthapikakneikbaaW.PrintWords Go.Proofs.YthapikakneikbaaW.PrintLast Go.Proofs.YthapikakneikbaaW.PrintMore
attribute [local go_sem] max2_int min2_int max_two min_two max_three min_three max_four min_four   -- for this text's walks alone
set_option linter.unusedVariables false
set_option linter.unusedSimpArgs false
def selfstabref26_Fit.f (k : Nat) (l0_0 : List Int) (l0_1 : List (List (S60))) : Option (Bool) := (selfstabref01_Connected.f k l0_0 l0_1).bind fun t721 => (some t721)
theorem selfstabref26_Fit.mono : ∀ a0 a1 k, LeO (selfstabref26_Fit.f k a0 a1) (selfstabref26_Fit.f (k + 1) a0 a1) := by
 intro a0 a1 k
 unfold selfstabref26_Fit.f
 repeat' first
   | (with_reducible exact selfstabref01_Connected.mono _ _ _)
   | (with_reducible exact LeO.refl _)
   | (with_reducible exact LeO.none _)
   | (with_reducible refine LeO.ite ?_ ?_)
   | (with_reducible refine LeO.bind ?_ (fun _ => ?_))
   | exact selfstabref01_Connected.mono _ _ _
   | exact LeO.none _
   | refine LeO.ite ?_ ?_
   | refine LeO.bind ?_ (fun _ => ?_)
set_option maxHeartbeats 8000000 in
set_option maxRecDepth 100000 in
theorem selfstabref26_Fit.calls (k : Nat) (A0_0 : Option Addr) (c0_0 : Nat) (l0_0 : List Int) (A0_1 : Option Addr) (c0_1 : Nat) (l0_1 : List (List (S60))) (r : Bool) (w : World) (hr0_0 : Kd.C (Kd.int .i64) w A0_0 l0_0.length l0_0) (hc0_0 : l0_0.length ≤ c0_0) (hr0_1 : Kd.C (Kd.slice 60 k60) w A0_1 l0_1.length l0_1) (hc0_1 : l0_1.length ≤ c0_1) (h : selfstabref26_Fit.f k l0_0 l0_1 = some r) :
  Calls Try.prog 50 #[.agg #[.slice A0_0 l0_0.length c0_0, .slice A0_1 l0_1.length c0_1]] w fun e w' => e = .returned (.bool r) ∧ Below w.heap.size w w' := by
 have hu27 := Try.underlying27
 have HR0_0 := Aside0.mk hr0_0
 have HC0_0 := Aside0.mk hc0_0
 clear hr0_0 hc0_0
 have HR0_1 := Aside0.mk hr0_1
 have HC0_1 := Aside0.mk hc0_1
 clear hr0_1 hc0_1
 have HB := Aside0.mk (Below.refl w.heap.size w)
 have H : ((selfstabref01_Connected.f k l0_0 l0_1).bind fun t721 => (some t721)) = some r := h
 clear h
 replace H := Option.bind_eq_some_iff.mp H
 obtain ⟨t721, A20, H⟩ := H
 replace H : (some t721) = some r := H
 have A2 := Aside0.mk A20
 clear A20
 obtain rfl := Option.some.inj H
 go_enter Try.func50, Try.ntmps50
 go_wp2_with (first | ((with_reducible refine gate_dst (N := 1) rfl ?_); refine box_event ?hg (N := 1) ?hd (cs := #[.slice A0_0 l0_0.length c0_0, .slice A0_1 l0_1.length c0_1]) (t := 27) ?hr ?_; (case hd => rfl); (case hg => rfl); (case hr => first | (go_simp; done) | (go_simp; rfl)); intro gb720 hg w3 hbox hb; have n0_ := Aside0.mk (below_step (by repeat (first | (with_reducible first | exact HB.out | apply below_alloc | apply pw_below_drewN | apply below_drew1) | exact HB.out)) hb); have n1_ := Aside0.mk (hbox); have n2_ := Aside0.mk ((by rw [hg]; exact (below_size (by repeat (first | (with_reducible first | exact HB.out | apply below_alloc | apply pw_below_drewN | apply below_drew1) | exact HB.out))) : w.heap.size ≤ gb720)); have n3_ := Aside0.mk ((by rw [hg]; exact (below_size (by repeat (first | (with_reducible first | exact HB.out | apply below_alloc | apply pw_below_drewN | apply below_drew1) | exact HB.out))) : w.heap.size ≤ gb720)); clear HB; have HB := n0_; have BK720 := n1_; have GW720 := n2_; have GE720 := n3_; clear n0_ n1_ n2_ n3_; clear hb hbox hg; have hcz4_0 : w3.cell? ⟨gb720, 0, none⟩ = some (.slice A0_0 l0_0.length c0_0) := (blk_cell BK720.out 0).trans rfl; have hcz4_1 : w3.cell? ⟨gb720, 1, none⟩ = some (.slice A0_1 l0_1.length c0_1) := (blk_cell BK720.out 1).trans rfl; have hfz4_0 := blk_frozen BK720.out 0; have hfz4_1 := blk_frozen BK720.out 1) | ((with_reducible refine gate_callee (f := 88) rfl ?_); refine goesL_ (some 4) rfl rfl Try.func88 (by kernel_rfl) rfl #[.agg #[.slice A0_0 l0_0.length c0_0, .slice A0_1 l0_1.length c0_1]] rfl (by (try simp only [List.map_toArray, List.map_cons, List.map_nil]); first | done | rfl | (simp only [List.length_drop, List.length_take]; rfl)) ?_; (with_reducible refine (selfstabref01_Connected.calls k _ _ l0_0 _ _ l0_1 t721 _ ?side1 ?side2 ?side3 ?side4 A2.out).mono ?_); (case side1 => repeat (first | exact (Kd.C_below HR0_0.out HB.out) | (with_reducible refine Kd.C_alloc ?_ _) | (with_reducible refine Kd.C_drewN ?_ _) | (with_reducible refine Kd.C_drew ?_))); (case side2 => exact HC0_0.out); (case side3 => repeat (first | exact (Kd.C_below HR0_1.out HB.out) | (with_reducible refine Kd.C_alloc ?_ _) | (with_reducible refine Kd.C_drewN ?_ _) | (with_reducible refine Kd.C_drew ?_))); (case side4 => exact HC0_1.out); rintro e w5 ⟨rfl, hb⟩; refine ⟨_, rfl, ?_⟩; have n0_ := Aside0.mk (blk_below (g := gb720) (o := .cells #[.slice A0_0 l0_0.length c0_0, .slice A0_1 l0_1.length c0_1] 27 (0, 0)) (by (with_reducible repeat (first | refine blk_drewN ?_ _ | refine blk_drew ?_ | refine blk_alloc ?_ _)); exact BK720.out) hb); have n1_ := Aside0.mk (below_step (by repeat (first | (with_reducible first | exact HB.out | apply below_alloc | apply pw_below_drewN | apply below_drew1 | refine below_set ?_ GE720.out) | exact HB.out)) hb); clear BK720; clear HB; have BK720 := n0_; have HB := n1_; clear n0_ n1_; (try clear hb); (try clear hb2); (try clear hk); (try clear hi)))
 go_ret
 exact ⟨by first | rfl | (simp [errW_none, errW_some] <;> rfl) | (simp [*, errW_none, errW_some] <;> rfl), by repeat (first | (with_reducible first | exact HB.out | apply below_alloc | apply pw_below_drewN | apply below_drew1 | refine below_set ?_ GE720.out) | exact HB.out)⟩
end Go.Proofs.YthapikakneikbaaG
namespace Go.Proofs.YthapikakneikbaaG
open Go.RowKit Go.Proofs.YthapikakneikbaaW.PrintWords Go.Proofs.YthapikakneikbaaW.PrintLast Go.Proofs.YthapikakneikbaaW.PrintMore
attribute [local go_sem] max2_int min2_int max_two min_two max_three min_three max_four min_four   -- for this text's walks alone
set_option linter.unusedVariables false
set_option linter.unusedSimpArgs false
def selfstabref23_Config.f (l0_0 : List Int) (l0_1 : List (List (S60))) (l1 : List (List Int)) (l2 : List (S51)) : Option (Bool) :=
 if l2.length ≤ 100 ∧ l2.all smallV = true then some (Go.Proofs.Ythapikakneikbaa.confB (toG l0_0 l0_1) l1 (l2.map toV)) else none
theorem selfstabref23_Config.calls (A0_0 : Option Addr) (c0_0 : Nat) (l0_0 : List Int) (A0_1 : Option Addr) (c0_1 : Nat) (l0_1 : List (List (S60))) (A1 : Option Addr) (c1 : Nat) (l1 : List (List Int)) (A2 : Option Addr) (c2 : Nat) (l2 : List (S51)) (r : Bool) (w : World) (hr0_0 : Kd.C (Kd.int .i64) w A0_0 l0_0.length l0_0) (hc0_0 : l0_0.length ≤ c0_0) (hr0_1 : Kd.C (Kd.slice 60 k60) w A0_1 l0_1.length l0_1) (hc0_1 : l0_1.length ≤ c0_1) (hr1 : Kd.C (Kd.slice 3 (Kd.int .i64)) w A1 l1.length l1) (hc1 : l1.length ≤ c1) (hr2 : Kd.C k51 w A2 l2.length l2) (hc2 : l2.length ≤ c2) (h : selfstabref23_Config.f l0_0 l0_1 l1 l2 = some r) :
  Calls Try.prog 83 #[.agg #[.slice A0_0 l0_0.length c0_0, .slice A0_1 l0_1.length c0_1], .slice A1 l1.length c1, .slice A2 l2.length c2] w fun e w' => e = .returned (.bool r) ∧ Below w.heap.size w w' := by
 unfold selfstabref23_Config.f at h
 by_cases hm : l2.length ≤ 100 ∧ l2.all smallV = true
 ·
  rw [if_pos hm] at h
  injection h with h
  subst h
  have hv := Go.Proofs.Ythapikakneikbaa.refconf_calls w A0_0 c0_0 A0_1 c0_1 (toG l0_0 l0_1) (isGraph hr0_0 hc0_0 hr0_1 hc0_1) A1 c1 l1 (C_conf hr1) A2 c2 (l2.map toV) (Br.var.C hr2) (by simpa using hm.1) (fun v hv => by
   obtain ⟨x, hx, rfl⟩ := List.mem_map.1 hv
   exact smallV_is (List.all_eq_true.1 hm.2 x hx))
  have e1 : (toG l0_0 l0_1).ports.length = l0_1.length := by simp [toG]
  have e2 : (l2.map toV).length = l2.length := by simp
  rw [e1, e2] at hv
  exact hv
 ·
  rw [if_neg hm] at h
  cases h
end Go.Proofs.YthapikakneikbaaG
namespace Go.Proofs.YthapikakneikbaaG
open Go.RowKit Go.Proofs.YthapikakneikbaaW.PrintWords Go.Proofs.YthapikakneikbaaW.PrintLast Go.Proofs.YthapikakneikbaaW.PrintMore
attribute [local go_sem] max2_int min2_int max_two min_two max_three min_three max_four min_four   -- for this text's walks alone
set_option linter.unusedVariables false
set_option linter.unusedSimpArgs false
def selfstabref23_Number.f (a0 : ByteArray) (a1 : Int) (a2 : Int) (a3 : Int) : Option (ByteArray × Int × Int × Int × Int × Int) := some (a0, 1, 0, a1, a2, a3)
set_option maxHeartbeats 8000000 in
set_option maxRecDepth 100000 in
theorem selfstabref23_Number.calls (a0 : ByteArray) (a1 : Int) (a2 : Int) (a3 : Int) (r1 : ByteArray) (r2 : Int) (r3 : Int) (r4 : Int) (r5 : Int) (r6 : Int) (w : World) (h : selfstabref23_Number.f a0 a1 a2 a3 = some (r1, r2, r3, r4, r5, r6)) :
  Calls Try.prog 121 #[.string a0, .int .i64 a1, .int .i64 a2, .int .i64 a3] w fun e w' => e = .returned (.agg #[.string r1, .int .i64 r2, .int .i64 r3, .int .i64 r4, .int .i64 r5, .int .i64 r6]) ∧ Below w.heap.size w w' := by
 have hu51 := Try.underlying51
 have HB := Aside0.mk (Below.refl w.heap.size w)
 have H : (some (a0, 1, 0, a1, a2, a3)) = some (r1, r2, r3, r4, r5, r6) := h
 clear h
 simp only [Option.some.injEq, Prod.mk.injEq] at H
 obtain ⟨rfl, rfl, rfl, rfl, rfl, rfl⟩ := H
 go_enter Try.func121, Try.ntmps121
 go_wp2_with (first | ((with_reducible refine gate_dst (N := 8) rfl ?_); refine box_event ?hg (N := 8) ?hd (cs := #[.string (⟨#[]⟩ : ByteArray), .int .i64 0, .int .i64 0, .int .i64 0, .int .i64 0, .int .i64 0]) (t := 51) ?hr ?_; (case hd => rfl); (case hg => rfl); (case hr => first | (go_simp; done) | (go_simp; rfl)); intro gb218 hg w5 hbox hb; have n0_ := Aside0.mk (below_step (by repeat (first | (with_reducible first | exact HB.out | apply below_alloc | apply pw_below_drewN | apply below_drew1) | exact HB.out)) hb); have n1_ := Aside0.mk (hbox); have n2_ := Aside0.mk ((by rw [hg]; exact (below_size (by repeat (first | (with_reducible first | exact HB.out | apply below_alloc | apply pw_below_drewN | apply below_drew1) | exact HB.out))) : w.heap.size ≤ gb218)); have n3_ := Aside0.mk ((by rw [hg]; exact (below_size (by repeat (first | (with_reducible first | exact HB.out | apply below_alloc | apply pw_below_drewN | apply below_drew1) | exact HB.out))) : w.heap.size ≤ gb218)); clear HB; have HB := n0_; have BK218 := n1_; have GW218 := n2_; have GE218 := n3_; clear n0_ n1_ n2_ n3_; clear hb hbox hg; have hcz6_0 : w5.cell? ⟨gb218, 0, none⟩ = some (.string (⟨#[]⟩ : ByteArray)) := (blk_cell BK218.out 0).trans rfl; have hcz6_1 : w5.cell? ⟨gb218, 1, none⟩ = some (.int .i64 0) := (blk_cell BK218.out 1).trans rfl; have hcz6_2 : w5.cell? ⟨gb218, 2, none⟩ = some (.int .i64 0) := (blk_cell BK218.out 2).trans rfl; have hcz6_3 : w5.cell? ⟨gb218, 3, none⟩ = some (.int .i64 0) := (blk_cell BK218.out 3).trans rfl; have hcz6_4 : w5.cell? ⟨gb218, 4, none⟩ = some (.int .i64 0) := (blk_cell BK218.out 4).trans rfl; have hcz6_5 : w5.cell? ⟨gb218, 5, none⟩ = some (.int .i64 0) := (blk_cell BK218.out 5).trans rfl; have hfz6_0 := blk_frozen BK218.out 0; have hfz6_1 := blk_frozen BK218.out 1; have hfz6_2 := blk_frozen BK218.out 2; have hfz6_3 := blk_frozen BK218.out 3; have hfz6_4 := blk_frozen BK218.out 4; have hfz6_5 := blk_frozen BK218.out 5))
 refine bodyPost_ret (results_cell_row rfl _ _ gb218 51 #[.string a0, .int .i64 1, .int .i64 0, .int .i64 a1, .int .i64 a2, .int .i64 a3] (0, 0) _ rfl (by (with_reducible repeat (first | refine blk_drewN ?_ _ | refine blk_drew ?_ | refine blk_alloc ?_ _)); refine blk_put (cs := #[.string a0, .int .i64 1, .int .i64 0, .int .i64 a1, .int .i64 a2, .int .i64 0]) ?_ 5 _ rfl; (with_reducible repeat (first | refine blk_drewN ?_ _ | refine blk_drew ?_ | refine blk_alloc ?_ _)); refine blk_put (cs := #[.string a0, .int .i64 1, .int .i64 0, .int .i64 a1, .int .i64 0, .int .i64 0]) ?_ 4 _ rfl; (with_reducible repeat (first | refine blk_drewN ?_ _ | refine blk_drew ?_ | refine blk_alloc ?_ _)); refine blk_put (cs := #[.string a0, .int .i64 1, .int .i64 0, .int .i64 0, .int .i64 0, .int .i64 0]) ?_ 3 _ rfl; (with_reducible repeat (first | refine blk_drewN ?_ _ | refine blk_drew ?_ | refine blk_alloc ?_ _)); refine blk_put (cs := #[.string a0, .int .i64 1, .int .i64 0, .int .i64 0, .int .i64 0, .int .i64 0]) ?_ 2 _ rfl; (with_reducible repeat (first | refine blk_drewN ?_ _ | refine blk_drew ?_ | refine blk_alloc ?_ _)); refine blk_put (cs := #[.string a0, .int .i64 0, .int .i64 0, .int .i64 0, .int .i64 0, .int .i64 0]) ?_ 1 _ rfl; (with_reducible repeat (first | refine blk_drewN ?_ _ | refine blk_drew ?_ | refine blk_alloc ?_ _)); refine blk_put (cs := #[.string (⟨#[]⟩ : ByteArray), .int .i64 0, .int .i64 0, .int .i64 0, .int .i64 0, .int .i64 0]) ?_ 0 _ rfl; (with_reducible repeat (first | refine blk_drewN ?_ _ | refine blk_drew ?_ | refine blk_alloc ?_ _)); exact BK218.out) Try.underlying51 rfl (by kernel_rfl)) rfl ?_
 exact ⟨by first | rfl | (simp [errW_none, errW_some] <;> rfl) | (simp [*, errW_none, errW_some] <;> rfl), by repeat (first | (with_reducible first | exact HB.out | apply below_alloc | apply pw_below_drewN | apply below_drew1 | refine below_set ?_ GE218.out) | exact HB.out)⟩
end Go.Proofs.YthapikakneikbaaG
namespace Go.Proofs.YthapikakneikbaaG
open Go.RowKit Go.Proofs.YthapikakneikbaaW.PrintWords Go.Proofs.YthapikakneikbaaW.PrintLast Go.Proofs.YthapikakneikbaaW.PrintMore
attribute [local go_sem] max2_int min2_int max_two min_two max_three min_three max_four min_four   -- for this text's walks alone
set_option linter.unusedVariables false
set_option linter.unusedSimpArgs false
def selfstabref23_Pointer.f (a0 : ByteArray) : Option (ByteArray × Int × Int × Int × Int × Int) := some (a0, 3, 0, 0, 0, 0)
set_option maxHeartbeats 8000000 in
set_option maxRecDepth 100000 in
theorem selfstabref23_Pointer.calls (a0 : ByteArray) (r1 : ByteArray) (r2 : Int) (r3 : Int) (r4 : Int) (r5 : Int) (r6 : Int) (w : World) (h : selfstabref23_Pointer.f a0 = some (r1, r2, r3, r4, r5, r6)) :
  Calls Try.prog 125 #[.string a0] w fun e w' => e = .returned (.agg #[.string r1, .int .i64 r2, .int .i64 r3, .int .i64 r4, .int .i64 r5, .int .i64 r6]) ∧ Below w.heap.size w w' := by
 have hu51 := Try.underlying51
 have HB := Aside0.mk (Below.refl w.heap.size w)
 have H : (some (a0, 3, 0, 0, 0, 0)) = some (r1, r2, r3, r4, r5, r6) := h
 clear h
 simp only [Option.some.injEq, Prod.mk.injEq] at H
 obtain ⟨rfl, rfl, rfl, rfl, rfl, rfl⟩ := H
 go_enter Try.func125, Try.ntmps125
 go_wp2_with (first | ((with_reducible refine gate_dst (N := 2) rfl ?_); refine box_event ?hg (N := 2) ?hd (cs := #[.string (⟨#[]⟩ : ByteArray), .int .i64 0, .int .i64 0, .int .i64 0, .int .i64 0, .int .i64 0]) (t := 51) ?hr ?_; (case hd => rfl); (case hg => rfl); (case hr => first | (go_simp; done) | (go_simp; rfl)); intro gb565 hg w2 hbox hb; have n0_ := Aside0.mk (below_step (by repeat (first | (with_reducible first | exact HB.out | apply below_alloc | apply pw_below_drewN | apply below_drew1) | exact HB.out)) hb); have n1_ := Aside0.mk (hbox); have n2_ := Aside0.mk ((by rw [hg]; exact (below_size (by repeat (first | (with_reducible first | exact HB.out | apply below_alloc | apply pw_below_drewN | apply below_drew1) | exact HB.out))) : w.heap.size ≤ gb565)); have n3_ := Aside0.mk ((by rw [hg]; exact (below_size (by repeat (first | (with_reducible first | exact HB.out | apply below_alloc | apply pw_below_drewN | apply below_drew1) | exact HB.out))) : w.heap.size ≤ gb565)); clear HB; have HB := n0_; have BK565 := n1_; have GW565 := n2_; have GE565 := n3_; clear n0_ n1_ n2_ n3_; clear hb hbox hg; have hcz3_0 : w2.cell? ⟨gb565, 0, none⟩ = some (.string (⟨#[]⟩ : ByteArray)) := (blk_cell BK565.out 0).trans rfl; have hcz3_1 : w2.cell? ⟨gb565, 1, none⟩ = some (.int .i64 0) := (blk_cell BK565.out 1).trans rfl; have hcz3_2 : w2.cell? ⟨gb565, 2, none⟩ = some (.int .i64 0) := (blk_cell BK565.out 2).trans rfl; have hcz3_3 : w2.cell? ⟨gb565, 3, none⟩ = some (.int .i64 0) := (blk_cell BK565.out 3).trans rfl; have hcz3_4 : w2.cell? ⟨gb565, 4, none⟩ = some (.int .i64 0) := (blk_cell BK565.out 4).trans rfl; have hcz3_5 : w2.cell? ⟨gb565, 5, none⟩ = some (.int .i64 0) := (blk_cell BK565.out 5).trans rfl; have hfz3_0 := blk_frozen BK565.out 0; have hfz3_1 := blk_frozen BK565.out 1; have hfz3_2 := blk_frozen BK565.out 2; have hfz3_3 := blk_frozen BK565.out 3; have hfz3_4 := blk_frozen BK565.out 4; have hfz3_5 := blk_frozen BK565.out 5))
 refine bodyPost_ret (results_cell_row rfl _ _ gb565 51 #[.string a0, .int .i64 3, .int .i64 0, .int .i64 0, .int .i64 0, .int .i64 0] (0, 0) _ rfl (by (with_reducible repeat (first | refine blk_drewN ?_ _ | refine blk_drew ?_ | refine blk_alloc ?_ _)); refine blk_put (cs := #[.string a0, .int .i64 3, .int .i64 0, .int .i64 0, .int .i64 0, .int .i64 0]) ?_ 5 _ rfl; (with_reducible repeat (first | refine blk_drewN ?_ _ | refine blk_drew ?_ | refine blk_alloc ?_ _)); refine blk_put (cs := #[.string a0, .int .i64 3, .int .i64 0, .int .i64 0, .int .i64 0, .int .i64 0]) ?_ 4 _ rfl; (with_reducible repeat (first | refine blk_drewN ?_ _ | refine blk_drew ?_ | refine blk_alloc ?_ _)); refine blk_put (cs := #[.string a0, .int .i64 3, .int .i64 0, .int .i64 0, .int .i64 0, .int .i64 0]) ?_ 3 _ rfl; (with_reducible repeat (first | refine blk_drewN ?_ _ | refine blk_drew ?_ | refine blk_alloc ?_ _)); refine blk_put (cs := #[.string a0, .int .i64 3, .int .i64 0, .int .i64 0, .int .i64 0, .int .i64 0]) ?_ 2 _ rfl; (with_reducible repeat (first | refine blk_drewN ?_ _ | refine blk_drew ?_ | refine blk_alloc ?_ _)); refine blk_put (cs := #[.string a0, .int .i64 0, .int .i64 0, .int .i64 0, .int .i64 0, .int .i64 0]) ?_ 1 _ rfl; (with_reducible repeat (first | refine blk_drewN ?_ _ | refine blk_drew ?_ | refine blk_alloc ?_ _)); refine blk_put (cs := #[.string (⟨#[]⟩ : ByteArray), .int .i64 0, .int .i64 0, .int .i64 0, .int .i64 0, .int .i64 0]) ?_ 0 _ rfl; (with_reducible repeat (first | refine blk_drewN ?_ _ | refine blk_drew ?_ | refine blk_alloc ?_ _)); exact BK565.out) Try.underlying51 rfl (by kernel_rfl)) rfl ?_
 exact ⟨by first | rfl | (simp [errW_none, errW_some] <;> rfl) | (simp [*, errW_none, errW_some] <;> rfl), by repeat (first | (with_reducible first | exact HB.out | apply below_alloc | apply pw_below_drewN | apply below_drew1 | refine below_set ?_ GE565.out) | exact HB.out)⟩
end Go.Proofs.YthapikakneikbaaG
namespace Go.Proofs.YthapikakneikbaaG
open Go.RowKit Go.Proofs.YthapikakneikbaaW.PrintWords Go.Proofs.YthapikakneikbaaW.PrintLast Go.Proofs.YthapikakneikbaaW.PrintMore
attribute [local go_sem] max2_int min2_int max_two min_two max_three min_three max_four min_four   -- for this text's walks alone
set_option linter.unusedVariables false
set_option linter.unusedSimpArgs false
def selfstabref26_Vars.f  : Option ((List (S51))) := (selfstabref23_Number.f (⟨#[108, 101, 97, 100]⟩ : ByteArray) 0 0 1).bind fun bt722 => ((selfstabref23_Number.f (⟨#[100]⟩ : ByteArray) (-1) 1 0).bind fun bt728 => ((selfstabref23_Pointer.f (⟨#[112]⟩ : ByteArray)).bind fun bt734 => (some (([(⟨bt722.1, bt722.2.1, bt722.2.2.1, bt722.2.2.2.1, bt722.2.2.2.2.1, bt722.2.2.2.2.2⟩ : S51), (⟨bt728.1, bt728.2.1, bt728.2.2.1, bt728.2.2.2.1, bt728.2.2.2.2.1, bt728.2.2.2.2.2⟩ : S51), (⟨bt734.1, bt734.2.1, bt734.2.2.1, bt734.2.2.2.1, bt734.2.2.2.2.1, bt734.2.2.2.2.2⟩ : S51)] : List (S51))))))
set_option maxHeartbeats 8000000 in
set_option maxRecDepth 100000 in
theorem selfstabref26_Vars.calls  (r : List (S51)) (w : World) (h : selfstabref26_Vars.f  = some r) :
  Calls Try.prog 102 #[] w fun e w' => ∃ v0_ : Value, e = .returned (v0_) ∧ Kd.R k51 51 w' w.heap.size (fun _ => True) v0_ r ∧ Below w.heap.size w w' := by
 have HB := Aside0.mk (Below.refl w.heap.size w)
 have H : ((selfstabref23_Number.f (⟨#[108, 101, 97, 100]⟩ : ByteArray) 0 0 1).bind fun bt722 => ((selfstabref23_Number.f (⟨#[100]⟩ : ByteArray) (-1) 1 0).bind fun bt728 => ((selfstabref23_Pointer.f (⟨#[112]⟩ : ByteArray)).bind fun bt734 => (some (([(⟨bt722.1, bt722.2.1, bt722.2.2.1, bt722.2.2.2.1, bt722.2.2.2.2.1, bt722.2.2.2.2.2⟩ : S51), (⟨bt728.1, bt728.2.1, bt728.2.2.1, bt728.2.2.2.1, bt728.2.2.2.2.1, bt728.2.2.2.2.2⟩ : S51), (⟨bt734.1, bt734.2.1, bt734.2.2.1, bt734.2.2.2.1, bt734.2.2.2.2.1, bt734.2.2.2.2.2⟩ : S51)] : List (S51))))))) = some r := h
 clear h
 replace H := Option.bind_eq_some_iff.mp H
 obtain ⟨⟨t722, t723, t724, t725, t726, t727⟩, A10, H⟩ := H
 replace H : ((selfstabref23_Number.f (⟨#[100]⟩ : ByteArray) (-1) 1 0).bind fun bt728 => ((selfstabref23_Pointer.f (⟨#[112]⟩ : ByteArray)).bind fun bt734 => (some (([(⟨t722, t723, t724, t725, t726, t727⟩ : S51), (⟨bt728.1, bt728.2.1, bt728.2.2.1, bt728.2.2.2.1, bt728.2.2.2.2.1, bt728.2.2.2.2.2⟩ : S51), (⟨bt734.1, bt734.2.1, bt734.2.2.1, bt734.2.2.2.1, bt734.2.2.2.2.1, bt734.2.2.2.2.2⟩ : S51)] : List (S51)))))) = some r := H
 have A1 := Aside0.mk A10
 clear A10
 replace H := Option.bind_eq_some_iff.mp H
 obtain ⟨⟨t728, t729, t730, t731, t732, t733⟩, A20, H⟩ := H
 replace H : ((selfstabref23_Pointer.f (⟨#[112]⟩ : ByteArray)).bind fun bt734 => (some (([(⟨t722, t723, t724, t725, t726, t727⟩ : S51), (⟨t728, t729, t730, t731, t732, t733⟩ : S51), (⟨bt734.1, bt734.2.1, bt734.2.2.1, bt734.2.2.2.1, bt734.2.2.2.2.1, bt734.2.2.2.2.2⟩ : S51)] : List (S51))))) = some r := H
 have A2 := Aside0.mk A20
 clear A20
 replace H := Option.bind_eq_some_iff.mp H
 obtain ⟨⟨t734, t735, t736, t737, t738, t739⟩, A30, H⟩ := H
 replace H : (some (([(⟨t722, t723, t724, t725, t726, t727⟩ : S51), (⟨t728, t729, t730, t731, t732, t733⟩ : S51), (⟨t734, t735, t736, t737, t738, t739⟩ : S51)] : List (S51)))) = some r := H
 have A3 := Aside0.mk A30
 clear A30
 obtain ⟨y740, hy740⟩ : ∃ y_ : List (S51), y_ = (([(⟨t722, t723, t724, t725, t726, t727⟩ : S51), (⟨t728, t729, t730, t731, t732, t733⟩ : S51), (⟨t734, t735, t736, t737, t738, t739⟩ : S51)] : List (S51))) := ⟨_, rfl⟩
 replace H : (some y740) = some r := by first | (rw [hy740]; with_reducible exact H) | (have H2_ := (Option.bind_some _ _).symm.trans H; rw [hy740]; with_reducible exact H2_) | (have H2_ := (Option.bind_some _ _).symm.trans H; with_reducible exact H2_) | with_reducible exact H | (rw [hy740]; exact H) | exact H
 have Ny740 := Aside0.mk hy740
 clear hy740
 obtain rfl := Option.some.inj H
 go_enter Try.func102, Try.ntmps102
 go_wp2_with (first | ((with_reducible refine gate_callee (f := 121) rfl ?_); refine goesL_ (some 1) rfl rfl Try.func121 (by kernel_rfl) rfl #[.string (⟨#[108, 101, 97, 100]⟩ : ByteArray), .int .i64 0, .int .i64 0, .int .i64 1] rfl (by (try simp only [List.map_toArray, List.map_cons, List.map_nil]); first | done | rfl | (simp only [List.length_drop, List.length_take]; rfl)) ?_; (with_reducible refine (selfstabref23_Number.calls (⟨#[108, 101, 97, 100]⟩ : ByteArray) 0 0 1 t722 t723 t724 t725 t726 t727 _ A1.out).mono ?_); rintro e w4 ⟨rfl, hb⟩; refine ⟨_, rfl, ?_⟩; have n0_ := Aside0.mk (below_step (by repeat (first | (with_reducible first | exact HB.out | apply below_alloc | apply pw_below_drewN | apply below_drew1) | exact HB.out)) hb); clear HB; have HB := n0_; clear n0_; (try clear hb); (try clear hb2); (try clear hk); (try clear hi)) | ((with_reducible refine gate_callee (f := 121) rfl ?_); refine goesL_ (some 2) rfl rfl Try.func121 (by kernel_rfl) rfl #[.string (⟨#[100]⟩ : ByteArray), .int .i64 (-1), .int .i64 1, .int .i64 0] rfl (by (try simp only [List.map_toArray, List.map_cons, List.map_nil]); first | done | rfl | (simp only [List.length_drop, List.length_take]; rfl)) ?_; (with_reducible refine (selfstabref23_Number.calls (⟨#[100]⟩ : ByteArray) (-1) 1 0 t728 t729 t730 t731 t732 t733 _ A2.out).mono ?_); rintro e w5 ⟨rfl, hb⟩; refine ⟨_, rfl, ?_⟩; have n0_ := Aside0.mk (below_step (by repeat (first | (with_reducible first | exact HB.out | apply below_alloc | apply pw_below_drewN | apply below_drew1) | exact HB.out)) hb); clear HB; have HB := n0_; clear n0_; (try clear hb); (try clear hb2); (try clear hk); (try clear hi)) | ((with_reducible refine gate_callee (f := 125) rfl ?_); refine goesL_ (some 3) rfl rfl Try.func125 (by kernel_rfl) rfl #[.string (⟨#[112]⟩ : ByteArray)] rfl (by (try simp only [List.map_toArray, List.map_cons, List.map_nil]); first | done | rfl | (simp only [List.length_drop, List.length_take]; rfl)) ?_; (with_reducible refine (selfstabref23_Pointer.calls (⟨#[112]⟩ : ByteArray) t734 t735 t736 t737 t738 t739 _ A3.out).mono ?_); rintro e w6 ⟨rfl, hb⟩; refine ⟨_, rfl, ?_⟩; have n0_ := Aside0.mk (below_step (by repeat (first | (with_reducible first | exact HB.out | apply below_alloc | apply pw_below_drewN | apply below_drew1) | exact HB.out)) hb); clear HB; have HB := n0_; clear n0_; (try clear hb); (try clear hb2); (try clear hk); (try clear hi)) | ((with_reducible refine gate_dst (N := 4) rfl ?_); refine Kd.R_lit k51 _ 51 ?hg (N := 4) ?hd (xs := ([(⟨t722, t723, t724, t725, t726, t727⟩ : S51), (⟨t728, t729, t730, t731, t732, t733⟩ : S51), (⟨t734, t735, t736, t737, t738, t739⟩ : S51)] : List (S51))) (inner := [.string t722, .int .i64 t723, .int .i64 t724, .int .i64 t725, .int .i64 t726, .int .i64 t727, .string t728, .int .i64 t729, .int .i64 t730, .int .i64 t731, .int .i64 t732, .int .i64 t733, .string t734, .int .i64 t735, .int .i64 t736, .int .i64 t737, .int .i64 t738, .int .i64 t739]) (ok := fun _ => True) (okp := fun _ => True) ?hr ?hp (fun _ hk => hk) trivial (Below.refl _ _) (Nat.le_refl _) (by simp) ?_; (case hd => rfl); (case hg => rfl); (case hr => first | (go_simp; done) | (go_simp; rfl)); (case hp => exact (Reps.c6 (show Kd.M k51 _ _ _ (⟨t722, t723, t724, t725, t726, t727⟩ : S51) [.string t722, .int .i64 t723, .int .i64 t724, .int .i64 t725, .int .i64 t726, .int .i64 t727] from (k51_mkM _ _ _ (⟨t722, t723, t724, t725, t726, t727⟩ : S51) )) (Reps.c6 (show Kd.M k51 _ _ _ (⟨t728, t729, t730, t731, t732, t733⟩ : S51) [.string t728, .int .i64 t729, .int .i64 t730, .int .i64 t731, .int .i64 t732, .int .i64 t733] from (k51_mkM _ _ _ (⟨t728, t729, t730, t731, t732, t733⟩ : S51) )) (Reps.c6 (show Kd.M k51 _ _ _ (⟨t734, t735, t736, t737, t738, t739⟩ : S51) [.string t734, .int .i64 t735, .int .i64 t736, .int .i64 t737, .int .i64 t738, .int .i64 t739] from (k51_mkM _ _ _ (⟨t734, t735, t736, t737, t738, t739⟩ : S51) )) (Reps.none _ _))))); intro v741 w7 ho8 hb hg_ hnew_; clear hg_ hnew_; (first | rw [← Ny740.out] at ho8 | (simp only [Int.reduceToNat] at ho8; rw [← Ny740.out] at ho8)); have n0_ := Aside0.mk (Kd.R_lower ho8 (below_size (by repeat (first | (with_reducible first | exact HB.out | apply below_alloc | apply pw_below_drewN | apply below_drew1) | exact HB.out)))); have n1_ := Aside0.mk (below_step (by repeat (first | (with_reducible first | exact HB.out | apply below_alloc | apply pw_below_drewN | apply below_drew1) | exact HB.out)) hb); clear HB; have HO742 := n0_; have HB := n1_; clear n0_ n1_; clear hb ho8))
 go_ret
 exact ⟨_, by first | rfl | (simp [errW_none, errW_some] <;> rfl) | (simp [*, errW_none, errW_some] <;> rfl), by (with_reducible repeat (first | apply Kd.R_alloc | apply Kd.R_drewN | apply Kd.R_drew)); exact HO742.out, by repeat (first | (with_reducible first | exact HB.out | apply below_alloc | apply pw_below_drewN | apply below_drew1) | exact HB.out)⟩
end Go.Proofs.YthapikakneikbaaG
namespace Go.Proofs.YthapikakneikbaaG
open Go.RowKit Go.Proofs.YthapikakneikbaaW.PrintWords Go.Proofs.YthapikakneikbaaW.PrintLast Go.Proofs.YthapikakneikbaaW.PrintMore
attribute [local go_sem] max2_int min2_int max_two min_two max_three min_three max_four min_four   -- for this text's walks alone
set_option linter.unusedVariables false
set_option linter.unusedSimpArgs false
def selfstabref26_Least.l0 : Nat → Int → Int → List Int → List (List (S60)) → Option (Int)
 | 0, _, _, _, _ => none
 | k + 1, x3, x4, x744000, x744001 => if x4 < (x744000.length : Int) then (if 0 ≤ x4 then (if 0 ≤ x3 then (if x3 < (x744000.length : Int) then (if (rd x744000 x4) < (rd x744000 x3) then (selfstabref26_Least.l0 k x4 (wrap64 (x4 + 1)) x744000 x744001) else (selfstabref26_Least.l0 k x3 (wrap64 (x4 + 1)) x744000 x744001)) else (none)) else (none)) else (none)) else (some x3)
def selfstabref26_Least.f (k : Nat) (l0_0 : List Int) (l0_1 : List (List (S60))) : Option (Int) := selfstabref26_Least.l0 k 0 1 l0_0 l0_1
theorem selfstabref26_Least.mono_l : ∀ k, (∀ y0 y1 y2 y3, LeO (selfstabref26_Least.l0 k y0 y1 y2 y3) (selfstabref26_Least.l0 (k + 1) y0 y1 y2 y3))
 | 0 => fun _ _ _ _ r h => by simp [selfstabref26_Least.l0] at h
 | k + 1 => by
  have ih0 := selfstabref26_Least.mono_l k
  ·
   intro y0 y1 y2 y3
   unfold selfstabref26_Least.l0
   repeat' first
   | (with_reducible exact ih0 _ _ _ _)
   | (with_reducible exact LeO.refl _)
   | (with_reducible exact LeO.none _)
   | (with_reducible refine LeO.ite ?_ ?_)
   | (with_reducible refine LeO.bind ?_ (fun _ => ?_))
   | exact ih0 _ _ _ _
   | exact LeO.none _
   | refine LeO.ite ?_ ?_
   | refine LeO.bind ?_ (fun _ => ?_)
theorem selfstabref26_Least.mono : ∀ a0 a1 k, LeO (selfstabref26_Least.f k a0 a1) (selfstabref26_Least.f (k + 1) a0 a1) := by
 intro a0 a1 k
 have ih0 := selfstabref26_Least.mono_l k
 unfold selfstabref26_Least.f
 repeat' first
   | (with_reducible exact ih0 _ _ _ _)
   | (with_reducible exact LeO.refl _)
   | (with_reducible exact LeO.none _)
   | (with_reducible refine LeO.ite ?_ ?_)
   | (with_reducible refine LeO.bind ?_ (fun _ => ?_))
   | exact ih0 _ _ _ _
   | exact LeO.none _
   | refine LeO.ite ?_ ?_
   | refine LeO.bind ?_ (fun _ => ?_)
set_option maxHeartbeats 8000000 in
set_option maxRecDepth 100000 in
theorem selfstabref26_Least.calls (k : Nat) (A0_0 : Option Addr) (c0_0 : Nat) (l0_0 : List Int) (A0_1 : Option Addr) (c0_1 : Nat) (l0_1 : List (List (S60))) (r : Int) (w : World) (hr0_0 : Kd.C (Kd.int .i64) w A0_0 l0_0.length l0_0) (hc0_0 : l0_0.length ≤ c0_0) (hr0_1 : Kd.C (Kd.slice 60 k60) w A0_1 l0_1.length l0_1) (hc0_1 : l0_1.length ≤ c0_1) (h : selfstabref26_Least.f k l0_0 l0_1 = some r) :
  Calls Try.prog 103 #[.agg #[.slice A0_0 l0_0.length c0_0, .slice A0_1 l0_1.length c0_1]] w fun e w' => e = .returned (.int .i64 r) ∧ Below w.heap.size w w' := by
 have hu27 := Try.underlying27
 have HR0_0 := Aside0.mk hr0_0
 have HC0_0 := Aside0.mk hc0_0
 clear hr0_0 hc0_0
 have HR0_1 := Aside0.mk hr0_1
 have HC0_1 := Aside0.mk hc0_1
 clear hr0_1 hc0_1
 have HB := Aside0.mk (Below.refl w.heap.size w)
 have H : (selfstabref26_Least.l0 k 0 1 l0_0 l0_1) = some r := h
 clear h
 have H' := Aside0.mk H
 clear H
 go_enter Try.func103, Try.ntmps103
 go_wp2_with (first | ((with_reducible refine gate_dst (N := 1) rfl ?_); refine box_event ?hg (N := 1) ?hd (cs := #[.slice A0_0 l0_0.length c0_0, .slice A0_1 l0_1.length c0_1]) (t := 27) ?hr ?_; (case hd => rfl); (case hg => rfl); (case hr => first | (go_simp; done) | (go_simp; rfl)); intro gb743 hg w2 hbox hb; have n0_ := Aside0.mk (below_step (by repeat (first | (with_reducible first | exact HB.out | apply below_alloc | apply pw_below_drewN | apply below_drew1) | exact HB.out)) hb); have n1_ := Aside0.mk (hbox); have n2_ := Aside0.mk ((by rw [hg]; exact (below_size (by repeat (first | (with_reducible first | exact HB.out | apply below_alloc | apply pw_below_drewN | apply below_drew1) | exact HB.out))) : w.heap.size ≤ gb743)); have n3_ := Aside0.mk ((by rw [hg]; exact (below_size (by repeat (first | (with_reducible first | exact HB.out | apply below_alloc | apply pw_below_drewN | apply below_drew1) | exact HB.out))) : w.heap.size ≤ gb743)); clear HB; have HB := n0_; have BK743 := n1_; have GW743 := n2_; have GE743 := n3_; clear n0_ n1_ n2_ n3_; clear hb hbox hg))
 repeat (go_quiet (first | ((with_reducible refine gate_dst (N := 1) rfl ?_); refine box_event ?hg (N := 1) ?hd (cs := #[.slice A0_0 l0_0.length c0_0, .slice A0_1 l0_1.length c0_1]) (t := 27) ?hr ?_; (case hd => rfl); (case hg => rfl); (case hr => first | (go_simp; done) | (go_simp; rfl)); intro gb743 hg w2 hbox hb; have n0_ := Aside0.mk (below_step (by repeat (first | (with_reducible first | exact HB.out | apply below_alloc | apply pw_below_drewN | apply below_drew1) | exact HB.out)) hb); have n1_ := Aside0.mk (hbox); have n2_ := Aside0.mk ((by rw [hg]; exact (below_size (by repeat (first | (with_reducible first | exact HB.out | apply below_alloc | apply pw_below_drewN | apply below_drew1) | exact HB.out))) : w.heap.size ≤ gb743)); have n3_ := Aside0.mk ((by rw [hg]; exact (below_size (by repeat (first | (with_reducible first | exact HB.out | apply below_alloc | apply pw_below_drewN | apply below_drew1) | exact HB.out))) : w.heap.size ≤ gb743)); clear HB; have HB := n0_; have BK743 := n1_; have GW743 := n2_; have GE743 := n3_; clear n0_ n1_ n2_ n3_; clear hb hbox hg)); try go_wp2_with (first | ((with_reducible refine gate_dst (N := 1) rfl ?_); refine box_event ?hg (N := 1) ?hd (cs := #[.slice A0_0 l0_0.length c0_0, .slice A0_1 l0_1.length c0_1]) (t := 27) ?hr ?_; (case hd => rfl); (case hg => rfl); (case hr => first | (go_simp; done) | (go_simp; rfl)); intro gb743 hg w2 hbox hb; have n0_ := Aside0.mk (below_step (by repeat (first | (with_reducible first | exact HB.out | apply below_alloc | apply pw_below_drewN | apply below_drew1) | exact HB.out)) hb); have n1_ := Aside0.mk (hbox); have n2_ := Aside0.mk ((by rw [hg]; exact (below_size (by repeat (first | (with_reducible first | exact HB.out | apply below_alloc | apply pw_below_drewN | apply below_drew1) | exact HB.out))) : w.heap.size ≤ gb743)); have n3_ := Aside0.mk ((by rw [hg]; exact (below_size (by repeat (first | (with_reducible first | exact HB.out | apply below_alloc | apply pw_below_drewN | apply below_drew1) | exact HB.out))) : w.heap.size ≤ gb743)); clear HB; have HB := n0_; have BK743 := n1_; have GW743 := n2_; have GE743 := n3_; clear n0_ n1_ n2_ n3_; clear hb hbox hg)))
 go_loopg [3, 4] k (fun kq v3 v4 w' => ∃ (x3_1 : Int) (x4_1 : Int), v3 = .int .i64 x3_1 ∧ v4 = .int .i64 x4_1 ∧ Aside0 (selfstabref26_Least.l0 kq x3_1 x4_1 l0_0 l0_1 = some r) ∧ Aside0 (kq ≤ k) ∧ Aside0 (w'.heap[gb743]? = some (.cells #[(.slice A0_0 l0_0.length c0_0), (.slice A0_1 l0_1.length c0_1)] 27 (0, 0))) ∧ Aside0 (Below w.heap.size w w'))
 case atStart => exact ⟨(0), (1), (by first | rfl | (simp; done) | (simp [*]; done)), (by first | rfl | (simp; done) | (simp [*]; done)), H', ⟨Nat.le_refl _⟩, ⟨by (with_reducible repeat (first | refine blk_drewN ?_ _ | refine blk_drew ?_ | refine blk_alloc ?_ _)); exact BK743.out⟩, ⟨by repeat (first | (with_reducible first | exact HB.out | apply below_alloc | apply pw_below_drewN | apply below_drew1 | refine below_set ?_ GE743.out) | exact HB.out)⟩⟩
 case round =>
  clear H'
  try clear c1
  try clear p2
  obtain ⟨x3_1, x4_1, rfl, rfl, HA, HK1, BK743, HB⟩ := hrel
  cases gk with
  | zero => exact absurd HA.out (by simp [selfstabref26_Least.l0])
  | succ k1 =>
   have H := HA.out
   clear HA
   simp only [selfstabref26_Least.l0] at H
   by_cases c3 : x4_1 < (l0_0.length : Int)
   ·
    rw [if_pos c3] at H
    have c3b0 : decide (x4_1 < (l0_0.length : Int)) = true := decide_eq_true c3
    clear c3
    by_cases c4 : 0 ≤ x4_1
    ·
     rw [if_pos c4] at H
     have c4b0 : decide (0 ≤ x4_1) = true := decide_eq_true c4
     clear c4
     by_cases c5 : 0 ≤ x3_1
     ·
      rw [if_pos c5] at H
      have c5b0 : decide (0 ≤ x3_1) = true := decide_eq_true c5
      clear c5
      by_cases c6 : x3_1 < (l0_0.length : Int)
      ·
       rw [if_pos c6] at H
       have c6b0 : decide (x3_1 < (l0_0.length : Int)) = true := decide_eq_true c6
       clear c6
       by_cases c7 : (rd l0_0 x4_1) < (rd l0_0 x3_1)
       ·
        rw [if_pos c7] at H
        have c7b0 : decide ((rd l0_0 x4_1) < (rd l0_0 x3_1)) = true := decide_eq_true c7
        clear c7
        have H' := Aside0.mk H
        clear H
        have hcz8_0 : wr.cell? ⟨gb743, 0, none⟩ = some (.slice A0_0 l0_0.length c0_0) := (blk_cell BK743.out 0).trans rfl
        have hcz8_1 : wr.cell? ⟨gb743, 1, none⟩ = some (.slice A0_1 l0_1.length c0_1) := (blk_cell BK743.out 1).trans rfl
        have hfz8_0 := blk_frozen BK743.out 0
        have hfz8_1 := blk_frozen BK743.out 1
        have p744 : 0 ≤ (x4_1 : Int) := of_decide_eq_true (by first | (with_reducible assumption) | assumption)
        have q744 : x4_1 < (l0_0.length : Int) := of_decide_eq_true (by first | (with_reducible assumption) | assumption)
        obtain ⟨ad744, e744, hx744_0⟩ := Kd.at_int HR0_0.out x4_1 p744 q744
        cases e744
        replace hx744_0 := (HB.out.cell (World.block_lt_of_cell? w _ hx744_0)).trans hx744_0
        replace p744 := eq_true p744
        replace q744 := eq_true q744
        have p745 : 0 ≤ (x3_1 : Int) := of_decide_eq_true (by first | (with_reducible assumption) | assumption)
        have q745 : x3_1 < (l0_0.length : Int) := of_decide_eq_true (by first | (with_reducible assumption) | assumption)
        obtain ⟨ad745, e745, hx745_0⟩ := Kd.at_int HR0_0.out x3_1 p745 q745
        obtain rfl : ad744 = ad745 := (by injection e745)
        replace hx745_0 := (HB.out.cell (World.block_lt_of_cell? w _ hx745_0)).trans hx745_0
        replace p745 := eq_true p745
        replace q745 := eq_true q745
        go_wp2
        repeat (go_quiet (fail); try go_wp2)
        go_roundg k1
        case measure => have := HK1.out; omega
        case rel => exact ⟨(x4_1), (wrap64 (x4_1 + 1)), (by first | rfl | (simp; done) | (simp [*]; done)), (by first | rfl | (simp; done) | (simp [*]; done)), H', ⟨by have := HK1.out; omega⟩, ⟨by (with_reducible repeat (first | refine blk_drewN ?_ _ | refine blk_drew ?_ | refine blk_alloc ?_ _)); exact BK743.out⟩, ⟨by repeat (first | (with_reducible first | exact HB.out | apply below_alloc | apply pw_below_drewN | apply below_drew1 | refine below_set ?_ GE743.out) | exact HB.out)⟩⟩
       ·
        rw [if_neg c7] at H
        have c7b0 : decide ((rd l0_0 x4_1) < (rd l0_0 x3_1)) = false := decide_eq_false c7
        clear c7
        have H' := Aside0.mk H
        clear H
        have hcz9_0 : wr.cell? ⟨gb743, 0, none⟩ = some (.slice A0_0 l0_0.length c0_0) := (blk_cell BK743.out 0).trans rfl
        have hcz9_1 : wr.cell? ⟨gb743, 1, none⟩ = some (.slice A0_1 l0_1.length c0_1) := (blk_cell BK743.out 1).trans rfl
        have hfz9_0 := blk_frozen BK743.out 0
        have hfz9_1 := blk_frozen BK743.out 1
        have p744 : 0 ≤ (x4_1 : Int) := of_decide_eq_true (by first | (with_reducible assumption) | assumption)
        have q744 : x4_1 < (l0_0.length : Int) := of_decide_eq_true (by first | (with_reducible assumption) | assumption)
        obtain ⟨ad744, e744, hx744_0⟩ := Kd.at_int HR0_0.out x4_1 p744 q744
        cases e744
        replace hx744_0 := (HB.out.cell (World.block_lt_of_cell? w _ hx744_0)).trans hx744_0
        replace p744 := eq_true p744
        replace q744 := eq_true q744
        have p745 : 0 ≤ (x3_1 : Int) := of_decide_eq_true (by first | (with_reducible assumption) | assumption)
        have q745 : x3_1 < (l0_0.length : Int) := of_decide_eq_true (by first | (with_reducible assumption) | assumption)
        obtain ⟨ad745, e745, hx745_0⟩ := Kd.at_int HR0_0.out x3_1 p745 q745
        obtain rfl : ad744 = ad745 := (by injection e745)
        replace hx745_0 := (HB.out.cell (World.block_lt_of_cell? w _ hx745_0)).trans hx745_0
        replace p745 := eq_true p745
        replace q745 := eq_true q745
        go_wp2
        repeat (go_quiet (fail); try go_wp2)
        go_roundg k1
        case measure => have := HK1.out; omega
        case rel => exact ⟨(x3_1), (wrap64 (x4_1 + 1)), (by first | rfl | (simp; done) | (simp [*]; done)), (by first | rfl | (simp; done) | (simp [*]; done)), H', ⟨by have := HK1.out; omega⟩, ⟨by (with_reducible repeat (first | refine blk_drewN ?_ _ | refine blk_drew ?_ | refine blk_alloc ?_ _)); exact BK743.out⟩, ⟨by repeat (first | (with_reducible first | exact HB.out | apply below_alloc | apply pw_below_drewN | apply below_drew1 | refine below_set ?_ GE743.out) | exact HB.out)⟩⟩
      ·
       rw [if_neg c6] at H
       exact absurd H (by simp)
     ·
      rw [if_neg c5] at H
      exact absurd H (by simp)
    ·
     rw [if_neg c4] at H
     exact absurd H (by simp)
   ·
    rw [if_neg c3] at H
    have c3b0 : decide (x4_1 < (l0_0.length : Int)) = false := decide_eq_false c3
    clear c3
    obtain rfl := Option.some.inj H
    have hcz10_0 : wr.cell? ⟨gb743, 0, none⟩ = some (.slice A0_0 l0_0.length c0_0) := (blk_cell BK743.out 0).trans rfl
    have hcz10_1 : wr.cell? ⟨gb743, 1, none⟩ = some (.slice A0_1 l0_1.length c0_1) := (blk_cell BK743.out 1).trans rfl
    have hfz10_0 := blk_frozen BK743.out 0
    have hfz10_1 := blk_frozen BK743.out 1
    go_wp2
    repeat (go_quiet (fail); try go_wp2)
    go_ret
    exact ⟨by first | rfl | (simp [errW_none, errW_some] <;> rfl) | (simp [*, errW_none, errW_some] <;> rfl), by repeat (first | (with_reducible first | exact HB.out | apply below_alloc | apply pw_below_drewN | apply below_drew1 | refine below_set ?_ GE743.out) | exact HB.out)⟩
end Go.Proofs.YthapikakneikbaaG
