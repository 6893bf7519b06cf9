/-
  Package independent: Legit, Members, Claim.
-/
import Derived.Test.YthapikakneikbaaNeigh
namespace Go.Proofs.Ythapikakneikbaa
open Go.RowKit

def legit31 (g : Graph) (c : Conf) : Bool := g.valid && holdsB g c [1] && decide (neighB g (whereB c 0) = ((2 ^ c.length - 1) &&& (4294967295 - whereB c 0)))
def members31 (g : Graph) (c : Conf) : Nat := if g.valid && holdsB g c [1] then whereB c 0 else 0
theorem whereB_lt {c : Conf} {x : Nat} (h : c.length ≤ 32) : whereB c x < 4294967296 := bitsOf_small h
theorem holds_len {g : Graph} {c : Conf} {most : List Int} (h : holdsB g c most = true) : c.length = g.ports.length ∧ ∀ r ∈ c, r.length = most.length := by
  simp only [holdsB, Bool.and_eq_true, beq_iff_eq, List.all_eq_true, List.mem_range] at h
  refine ⟨h.1, fun r hr => ?_⟩
  obtain ⟨v, hv, rfl⟩ := List.mem_iff_getElem.1 hr
  have := h.2 v hv
  simp only [rowOK, Bool.and_eq_true, beq_iff_eq, List.getD_eq_getElem?_getD, List.getElem?_eq_getElem hv, Option.getD_some] at this
  exact this.1
/-- A list of numbers in a new block. -/
theorem C_lit (W : World) (t : TypeId) (xs : List Int) (h : xs.length ≤ 1000) : (Kd.int .i64).C (W.alloc (.cells (xs.map (Value.int .i64)).toArray t)) (some ⟨W.heap.size, 0, none⟩) xs := by
  refine ⟨by omega, fun _ => ⟨_, rfl, fun j x hj => ⟨[.int .i64 x], rfl, fun i u hu => ?_⟩⟩⟩
  cases i with
  | succ i => simp at hu
  | zero =>
    have : u = .int .i64 x := by simpa using hu.symm
    subst this
    have hjl := (List.getElem?_eq_some_iff.1 hj).1
    have : (⟨W.heap.size, 0, none⟩ : Addr).add (j * (Kd.int .i64).sz + 0) = ⟨W.heap.size, j, none⟩ := by
      show (⟨W.heap.size, 0, none⟩ : Addr).add (j * 1 + 0) = _
      unfold Addr.add
      split <;> simp_all
    rw [this]
    have hc : (xs.map (Value.int .i64)).toArray[j]? = some (.int .i64 x) := by simp [hj]
    unfold World.cell?
    rw [heap_alloc_new]
    simpa using hc

set_option maxHeartbeats 1000000 in
set_option maxRecDepth 100000 in
theorem legit31_calls (w : World) (A0 : Option Addr) (c0 : Nat) (A1 : Option Addr) (c1 : Nat) (g : Graph) (hg : IsGraph w A0 c0 A1 c1 g) (A2 : Option Addr) (c2 : Nat) (c : Conf) (hc : kConf.C w A2 c) :
    Calls Try.prog 18 #[.agg #[.slice A0 g.ids.length c0, .slice A1 g.ports.length c1], .slice A2 c.length c2] w fun e w' => e = .returned (.bool (legit31 g c)) ∧ Below w.heap.size w w' := by
  have hb0 := (Below.refl w.heap.size w).alloc (Nat.le_refl _) (.cells #[.slice A0 g.ids.length c0, .slice A1 g.ports.length c1] 27)
  have hg1 := hg.below hb0
  have HB0 := Lib.hid hb0
  have HG := Lib.hid hg
  have HC := Lib.hid hc
  clear hb0 hg hc
  cases hv : g.valid with
  | false =>
    have HE : Hid (legit31 g c = false) := by unfold Hid legit31; simp [hv]
    have HV := Lib.hid hv
    clear hv
    go_enter Try.func18, Try.ntmps18
    go_wp2_with fail
    refine (fit31_calls _ _ _ _ _ _ hg1).mono ?_
    rintro e w1 ⟨rfl, hb1⟩
    rw [HV.out]
    have HB1 := Lib.hid (HB0.out.trans (hb1.mono (by simp)))
    clear hb1
    go_wp2_with fail
    go_ret
    exact ⟨by rw [HE.out]; rfl, HB1.out⟩
  | true =>
    have HV := Lib.hid hv
    have HN := Lib.hid (valid_size hv)
    go_enter Try.func18, Try.ntmps18
    go_wp2_with fail
    refine (fit31_calls _ _ _ _ _ _ hg1).mono ?_
    rintro e w1 ⟨rfl, hb1⟩
    rw [HV.out]
    obtain ⟨hc0, hc1, hz1, hbw⟩ := box2 hb1
    have HBW := Lib.hid hbw
    clear hb1 hg1 hbw
    go_wp2_with fail
    refine (holds_calls _ _ _ _ _ g (HG.out.below (below_a HBW.out _)) _ _ _ (Kd.C_below HC.out (below_a HBW.out _)) _ _ [1] (C_lit w1 _ [1] (by decide))).mono ?_
    rintro e w2 ⟨rfl, hb2⟩
    have hc1v := cell_b hb2 (cell_a _ hc1)
    have hc0v := cell_b hb2 (cell_a _ hc0)
    have hz2 := hb2.size
    simp only [World.size_alloc] at hz2
    have HB2 := Lib.hid (below_t (below_a HBW.out _) hb2)
    clear hb2 hc1 hc0
    cases hh : holdsB g c [1] with
    | false =>
      have HE : Hid (legit31 g c = false) := by unfold Hid legit31; simp [hh]
      clear hh hv
      go_wp2_with fail
      go_ret
      exact ⟨by rw [HE.out]; rfl, HB2.out⟩
    | true =>
      have HE : Hid (legit31 g c = decide (neighB g (whereB c 0) = ((2 ^ c.length - 1) &&& (4294967295 - whereB c 0)))) := by unfold Hid legit31; simp [hh, hv]
      obtain ⟨hl, hr⟩ := holds_len hh
      have hn : c.length ≤ 24 := by have := HN.out.2.1; omega
      have HR := Lib.hid hr
      clear hh hv hl hr
      go_wp2_with fail
      refine (where_calls _ _ _ c 0 (Kd.C_below HC.out HB2.out) (by omega) (fun r hr => by rw [HR.out r hr]; decide)).mono ?_
      rintro e w3 ⟨rfl, rfl⟩
      have hs := whereB_lt (c := c) (x := 0) (by omega)
      generalize whereB c 0 = s at hs HE
      go_wp2_with fail
      refine (neigh_calls _ _ _ _ _ _ (HG.out.below HB2.out) _ hs).mono ?_
      rintro e w4 ⟨rfl, hb4⟩
      have HB4 := Lib.hid (below_t HB2.out hb4)
      clear hb4
      go_wp2_with fail
      go_ret
      refine ⟨?_, HB4.out⟩
      rw [HE.out, ← beq_nat, ← u32_andNot_nat _ _ (all_lt (by omega)) hs, ← all_sub2 (by omega)]
      rfl

set_option maxHeartbeats 1000000 in
set_option maxRecDepth 100000 in
theorem members31_calls (w : World) (A0 : Option Addr) (c0 : Nat) (A1 : Option Addr) (c1 : Nat) (g : Graph) (hg : IsGraph w A0 c0 A1 c1 g) (A2 : Option Addr) (c2 : Nat) (c : Conf) (hc : kConf.C w A2 c) :
    Calls Try.prog 12 #[.agg #[.slice A0 g.ids.length c0, .slice A1 g.ports.length c1], .slice A2 c.length c2] w fun e w' => e = .returned (.int .u32 (members31 g c : Nat)) ∧ Below w.heap.size w w' := by
  have hb0 := (Below.refl w.heap.size w).alloc (Nat.le_refl _) (.cells #[.slice A0 g.ids.length c0, .slice A1 g.ports.length c1] 27)
  have hg1 := hg.below hb0
  have HG := Lib.hid hg
  have HC := Lib.hid hc
  clear hb0 hg hc
  cases hv : g.valid with
  | false =>
    have HE : Hid (members31 g c = 0) := by unfold Hid members31; simp [hv]
    have HV := Lib.hid hv
    clear hv
    go_enter Try.func12, Try.ntmps12
    go_wp2_with fail
    refine (fit31_calls _ _ _ _ _ _ hg1).mono ?_
    rintro e w1 ⟨rfl, hb1⟩
    rw [HV.out]
    obtain ⟨hc0, hc1, hz1, hbw⟩ := box2 hb1
    have HB1 := Lib.hid hbw
    clear hb1 hbw
    go_wp2_with fail
    go_ret
    exact ⟨by rw [HE.out]; rfl, HB1.out⟩
  | true =>
    have HV := Lib.hid hv
    have HN := Lib.hid (valid_size hv)
    go_enter Try.func12, Try.ntmps12
    go_wp2_with fail
    refine (fit31_calls _ _ _ _ _ _ hg1).mono ?_
    rintro e w1 ⟨rfl, hb1⟩
    rw [HV.out]
    obtain ⟨hc0, hc1, hz1, hbw⟩ := box2 hb1
    have HBW := Lib.hid hbw
    clear hb1 hg1 hbw
    go_wp2_with fail
    refine (holds_calls _ _ _ _ _ g (HG.out.below (below_a HBW.out _)) _ _ _ (Kd.C_below HC.out (below_a HBW.out _)) _ _ [1] (C_lit w1 _ [1] (by decide))).mono ?_
    rintro e w2 ⟨rfl, hb2⟩
    have HB2 := Lib.hid (below_t (below_a HBW.out _) hb2)
    clear hb2 hc1 hc0
    cases hh : holdsB g c [1] with
    | false =>
      have HE : Hid (members31 g c = 0) := by unfold Hid members31; simp [hh]
      clear hh hv
      go_wp2_with fail
      go_ret
      exact ⟨by rw [HE.out]; rfl, HB2.out⟩
    | true =>
      have HE : Hid (members31 g c = whereB c 0) := by unfold Hid members31; simp [hh, hv]
      obtain ⟨hl, hr⟩ := holds_len hh
      have hn : c.length ≤ 24 := by have := HN.out.2.1; omega
      have HR := Lib.hid hr
      clear hh hv hl hr
      go_wp2_with fail
      refine (where_calls _ _ _ c 0 (Kd.C_below HC.out HB2.out) (by omega) (fun r hr => by rw [HR.out r hr]; decide)).mono ?_
      rintro e w3 ⟨rfl, rfl⟩
      go_wp2_with fail
      go_ret
      exact ⟨by rw [HE.out]; rfl, HB2.out⟩

/-- What a service claims, as a value. -/
structure Claim where
  kind : Int
  fair : Bool
  silent : Bool
  rounds : Int
  moves : Int
def Claim.value (c : Claim) : Value := .agg #[.int .i64 c.kind, .bool c.fair, .bool c.silent, .int .i64 c.rounds, .int .i64 c.moves]
def Claim.none : Claim := ⟨0, false, false, 0, 0⟩
def claim31 (g : Graph) : Claim := if g.valid then ⟨2, false, true, 2, 2 * g.ports.length⟩ else Claim.none
set_option maxHeartbeats 1000000 in
theorem claim31_calls (w : World) (A0 : Option Addr) (c0 : Nat) (A1 : Option Addr) (c1 : Nat) (g : Graph) (hg : IsGraph w A0 c0 A1 c1 g) :
    Calls Try.prog 33 #[.agg #[.slice A0 g.ids.length c0, .slice A1 g.ports.length c1]] w fun e w' => e = .returned (claim31 g).value ∧ Below w.heap.size w w' := by
  have hg1 := hg.below (((Below.refl w.heap.size w).alloc (Nat.le_refl _) (.cells #[.slice A0 g.ids.length c0, .slice A1 g.ports.length c1] 27)).alloc (by simp) (.cells #[.int .i64 0, .bool false, .bool false, .int .i64 0, .int .i64 0] 44))
  clear hg
  cases hv : g.valid with
  | false =>
    have HE : Hid (claim31 g = Claim.none) := by unfold Hid claim31; simp [hv]
    have HV := Lib.hid hv
    clear hv
    go_enter Try.func33, Try.ntmps33
    go_wp2_with fail
    refine (fit31_calls _ _ _ _ _ _ hg1).mono ?_
    rintro e w1 ⟨rfl, hb1⟩
    rw [HV.out]
    obtain ⟨hcc, hff⟩ := bcell hb1
    have hz := hb1.size
    have HB1 := Lib.hid ((((Below.refl _ _).alloc (Nat.le_refl _) _).alloc (by simp) _).trans (hb1.mono (by simp; omega)))
    simp only [World.size_alloc] at hcc hff hz
    clear hb1 hg1
    go_wp2_with fail
    refine bodyPost_ret (v := Claim.none.value) (by simp [results, Try.results33, go_sem, hcc, Claim.none, Claim.value]) rfl ⟨by rw [HE.out], ?_⟩
    exact ((((HB1.out.setCell (Nat.le_succ _) _).setCell (Nat.le_succ _) _).setCell (Nat.le_succ _) _).setCell (Nat.le_succ _) _).setCell (Nat.le_succ _) _
  | true =>
    have HE : Hid (claim31 g = ⟨2, false, true, 2, 2 * g.ports.length⟩) := by unfold Hid claim31; simp [hv]
    have HV := Lib.hid hv
    have hn := (valid_size hv).2.1
    clear hv
    go_enter Try.func33, Try.ntmps33
    go_wp2_with fail
    refine (fit31_calls _ _ _ _ _ _ hg1).mono ?_
    rintro e w1 ⟨rfl, hb1⟩
    rw [HV.out]
    obtain ⟨hcc, hff⟩ := bcell hb1
    have hz := hb1.size
    have HB1 := Lib.hid ((((Below.refl _ _).alloc (Nat.le_refl _) _).alloc (by simp) _).trans (hb1.mono (by simp; omega)))
    simp only [World.size_alloc] at hcc hff hz
    clear hb1 hg1
    go_wp2_with fail
    refine bodyPost_ret (v := (⟨2, false, true, 2, 2 * g.ports.length⟩ : Claim).value) (by simp [results, Try.results33, go_sem, hcc, Claim.value]) rfl ⟨by rw [HE.out], ?_⟩
    exact ((((HB1.out.setCell (Nat.le_succ _) _).setCell (Nat.le_succ _) _).setCell (Nat.le_succ _) _).setCell (Nat.le_succ _) _).setCell (Nat.le_succ _) _
end Go.Proofs.Ythapikakneikbaa
