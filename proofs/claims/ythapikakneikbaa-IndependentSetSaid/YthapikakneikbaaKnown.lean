/-
  selfstabref31.Vars, selfstablaw31.known.
-/
import Derived.Test.YthapikakneikbaaConfig
import Derived.Test.YthapikakneikbaaIndep
namespace Go.Proofs.Ythapikakneikbaa
open Go.RowKit

def Var.value (v : Var) : Value := .agg #[.string v.name, .int .i64 v.kind, .int .i64 v.lo, .int .i64 v.hi, .int .i64 v.pn, .int .i64 v.pid]
theorem truth_calls (w : World) (nm : ByteArray) : Calls Try.prog 72 #[.string nm] w fun e w' => e = .returned (Var.value ⟨nm, 2, 0, 0, 0, 0⟩) ∧ Below w.heap.size w w' := by
  go_enter Try.func72, Try.ntmps72
  go_wp2_with fail
  refine bodyPost_ret (v := Var.value ⟨nm, 2, 0, 0, 0, 0⟩) (by simp [results, Try.results72, go_sem, Var.value]) rfl ⟨rfl, ?_⟩
  exact (Below.refl _ _).alloc (Nat.le_refl _) _
def varM : Var := ⟨⟨#[109]⟩, 2, 0, 0, 0, 0⟩
theorem var_lit (W : World) (t : TypeId) (v : Var) : kVar.C (W.alloc (.cells #[.string v.name, .int .i64 v.kind, .int .i64 v.lo, .int .i64 v.hi, .int .i64 v.pn, .int .i64 v.pid] t)) (some ⟨W.heap.size, 0, none⟩) [v] := by
  refine ⟨by simp, fun _ => ⟨_, rfl, fun j x hj => ⟨_, rfl, fun i u hu => ?_⟩⟩⟩
  match j, hj with
  | 0, hj =>
    obtain rfl : v = x := by simpa using hj
    have hi := (List.getElem?_eq_some_iff.1 hu).1
    have : (⟨W.heap.size, 0, none⟩ : Addr).add (0 * kVar.sz + i) = ⟨W.heap.size, i, none⟩ := by
      rw [Nat.zero_mul, Nat.zero_add]
      unfold Addr.add
      split <;> simp_all
    rw [this]
    unfold World.cell?
    rw [heap_alloc_new]
    simpa using hu
  | j + 1, hj => simp at hj
theorem vars31_calls (w : World) : Calls Try.prog 11 #[] w fun e w' => (∃ A, e = .returned (.slice A 1 1) ∧ kVar.C w' A [varM]) ∧ Below w.heap.size w w' := by
  go_enter Try.func11, Try.ntmps11
  go_wp2_with fail
  refine (truth_calls _ _).mono ?_
  rintro e w1 ⟨rfl, hb⟩
  have HB := Lib.hid hb
  have hz := hb.size
  unfold Var.value
  clear hb
  go_wp2_with fail
  go_ret
  exact ⟨⟨_, rfl, var_lit w1 _ varM⟩, HB.out.alloc hz _⟩

/-! ### known -/
def knownNet : Net := ⟨3, [0, 1], [], [], false, false⟩
def knownG : Graph := knownNet.treeG 3
theorem known_1 : legit31 knownG [[1], [0], [1]] = true := by kernel_rfl
theorem known_2 : legit31 knownG [[0], [1], [0]] = true := by kernel_rfl
theorem known_3 : legit31 knownG [[1], [0], [0]] = false := by kernel_rfl
theorem known_4 : members31 knownG [[1], [0], [1]] = 5 := by kernel_rfl
theorem known_n : knownNet.n 3 = 3 := by kernel_rfl
/-- Three rows of one number, in blocks of their own. -/
theorem conf3 (W : World) (a b c : Int) : kConf.C ((((W.alloc (.cells #[.int .i64 a] 3)).alloc (.cells #[.int .i64 b] 3)).alloc (.cells #[.int .i64 c] 3)).alloc
      (.cells #[.slice (some ⟨W.heap.size, 0, none⟩) 1 1, .slice (some ⟨W.heap.size + 1, 0, none⟩) 1 1, .slice (some ⟨W.heap.size + 1 + 1, 0, none⟩) 1 1] 22)) (some ⟨W.heap.size + 1 + 1 + 1, 0, none⟩) [[a], [b], [c]] := by
  have ka := C_lit W 3 [a] (by simp)
  have kb := C_lit (W.alloc (.cells #[.int .i64 a] 3)) 3 [b] (by simp)
  have kc := C_lit ((W.alloc (.cells #[.int .i64 a] 3)).alloc (.cells #[.int .i64 b] 3)) 3 [c] (by simp)
  simp only [List.map_cons, List.map_nil, World.size_alloc] at ka kb kc
  have up : ∀ {W : World} {o : Obj} {A : Option Addr} {xs : List Int}, (Kd.int .i64).C W A xs → (Kd.int .i64).C (W.alloc o) A xs := fun h => Kd.C_below h ((Below.refl _ _).alloc (Nat.le_refl _) _)
  refine ⟨by simp, fun _ => ⟨_, rfl, fun j r hj => ?_⟩⟩
  have hcell : ∀ (k : Nat) (v : Value), #[Value.slice (some ⟨W.heap.size, 0, none⟩) 1 1, .slice (some ⟨W.heap.size + 1, 0, none⟩) 1 1, .slice (some ⟨W.heap.size + 1 + 1, 0, none⟩) 1 1][k]? = some v →
      ((((W.alloc (.cells #[.int .i64 a] 3)).alloc (.cells #[.int .i64 b] 3)).alloc (.cells #[.int .i64 c] 3)).alloc
      (.cells #[.slice (some ⟨W.heap.size, 0, none⟩) 1 1, .slice (some ⟨W.heap.size + 1, 0, none⟩) 1 1, .slice (some ⟨W.heap.size + 1 + 1, 0, none⟩) 1 1] 22)).cell? ((⟨W.heap.size + 1 + 1 + 1, 0, none⟩ : Addr).add k) = some v := fun k v hv => by
    have : (⟨W.heap.size + 1 + 1 + 1, 0, none⟩ : Addr).add k = ⟨W.heap.size + 1 + 1 + 1, k, none⟩ := by
      unfold Addr.add
      split <;> simp_all
    rw [this]
    exact cell_at_new (by simp) hv
  match j, hj with
  | 0, hj =>
    obtain rfl : [a] = r := by simpa using hj
    exact ⟨[.slice (some ⟨W.heap.size, 0, none⟩) 1 1], ⟨_, rfl, _, 1, rfl, Nat.le_refl _, up (up (up ka))⟩, fun i u hu => by
      match i, hu with
      | 0, hu => exact hcell 0 u (by simpa using hu)
      | i + 1, hu => simp at hu⟩
  | 1, hj =>
    obtain rfl : [b] = r := by simpa using hj
    exact ⟨[.slice (some ⟨W.heap.size + 1, 0, none⟩) 1 1], ⟨_, rfl, _, 1, rfl, Nat.le_refl _, up (up kb)⟩, fun i u hu => by
      match i, hu with
      | 0, hu => exact hcell 1 u (by simpa using hu)
      | i + 1, hu => simp at hu⟩
  | 2, hj =>
    obtain rfl : [c] = r := by simpa using hj
    exact ⟨[.slice (some ⟨W.heap.size + 1 + 1, 0, none⟩) 1 1], ⟨_, rfl, _, 1, rfl, Nat.le_refl _, up kc⟩, fun i u hu => by
      match i, hu with
      | 0, hu => exact hcell 2 u (by simpa using hu)
      | i + 1, hu => simp at hu⟩
  | j + 3, hj => simp at hj

abbrev rows3 (W : World) (n : Nat) (a b c : Int) : World := (((W.alloc (.cells #[.int .i64 a] 3)).alloc (.cells #[.int .i64 b] 3)).alloc (.cells #[.int .i64 c] 3)).alloc
      (.cells #[.slice (some ⟨n, 0, none⟩) 1 1, .slice (some ⟨n + 1, 0, none⟩) 1 1, .slice (some ⟨n + 1 + 1, 0, none⟩) 1 1] 22)
theorem known_l1 : knownG.ids.length = 3 := by kernel_rfl
theorem known_l2 : knownG.ports.length = 3 := by kernel_rfl
theorem rows3_below (W : World) (n : Nat) (a b c : Int) : Below W.heap.size W (rows3 W n a b c) := ((((Below.refl _ _).alloc (Nat.le_refl _) _).alloc (by simp) _).alloc (by simp; omega) _).alloc (by simp; omega) _
theorem legit_k (W : World) (n : Nat) (hn : W.heap.size = n) {A0 A1 : Option Addr} {c0 c1 : Nat} (hG : IsGraph W A0 c0 A1 c1 knownG) (a b c : Int) :
    Calls Try.prog 18 #[.agg #[.slice A0 3 c0, .slice A1 3 c1], .slice (some ⟨n + 1 + 1 + 1, 0, none⟩) 3 3] (rows3 W n a b c) fun e w' => e = .returned (.bool (legit31 knownG [[a], [b], [c]])) ∧ Below W.heap.size W w' := by
  subst hn
  have h := legit31_calls _ A0 c0 A1 c1 knownG (hG.below (rows3_below W _ a b c)) _ 3 [[a], [b], [c]] (conf3 W a b c)
  rw [known_l1, known_l2] at h
  refine h.mono ?_
  rintro e w' ⟨he, hb⟩
  exact ⟨he, (rows3_below W _ a b c).trans (hb.mono (rows3_below W _ a b c).size)⟩
theorem members_k (W : World) (n : Nat) (hn : W.heap.size = n) {A0 A1 : Option Addr} {c0 c1 : Nat} (hG : IsGraph W A0 c0 A1 c1 knownG) (a b c : Int) :
    Calls Try.prog 12 #[.agg #[.slice A0 3 c0, .slice A1 3 c1], .slice (some ⟨n + 1 + 1 + 1, 0, none⟩) 3 3] (rows3 W n a b c) fun e w' => e = .returned (.int .u32 (members31 knownG [[a], [b], [c]] : Nat)) ∧ Below W.heap.size W w' := by
  subst hn
  have h := members31_calls _ A0 c0 A1 c1 knownG (hG.below (rows3_below W _ a b c)) _ 3 [[a], [b], [c]] (conf3 W a b c)
  rw [known_l1, known_l2] at h
  refine h.mono ?_
  rintro e w' ⟨he, hb⟩
  exact ⟨he, (rows3_below W _ a b c).trans (hb.mono (rows3_below W _ a b c).size)⟩

/-- A graph that has just been made is read as that graph. -/
theorem made_reads {W w' : World} {B n : Nat} {g : Graph} {e : Ending} (h : MadeN B n g W w' e) (hn : n ≤ 24) : ∃ A0 c0 A1 c1, e = .returned (.agg #[.slice A0 g.ids.length c0, .slice A1 g.ports.length c1]) ∧ IsGraph w' A0 c0 A1 c1 g ∧ Below W.heap.size W w' := by
  obtain ⟨A, c, P, vs, rfl, ⟨hc, hi, hr⟩, ho, hp, hb⟩ := h
  obtain ⟨A2, c2, hv, hl2, hC⟩ := ints_reads (xs := g.ids) (by rw [hi]; exact ho)
  rw [hi] at hv
  injection hv with e1 _ e2
  subst e1 e2
  exact ⟨A, c, some ⟨P, 0, none⟩, n, by rw [hi, hr], ⟨hC, by omega, hp.reads (by omega), by omega⟩, hb⟩

set_option maxHeartbeats 4000000 in
set_option maxRecDepth 100000 in
theorem known31_calls (w : World) : Calls Try.prog 17 #[] w fun e w' => e = .returned (.bool true) ∧ Below w.heap.size w w' := by
  go_enter Try.func17, Try.ntmps17
  go_wp2_with fail
  have hin : knownNet.In (w.alloc (.cells #[.int .i64 0, .int .i64 1] 3)) (some ⟨w.heap.size, 0, none⟩) none none := ⟨C_lit w _ [0, 1] (by decide), Kd.C_nil _ _ _, Kd.C_nil _ _ _⟩
  refine (tree_n _ knownNet _ _ _ 2 0 0 hin 3 (by decide) (by decide)).mono ?_
  intro e w1 hmade
  obtain ⟨A0, c0, A1, c1, rfl, hG, hb1⟩ := made_reads hmade (by rw [known_n]; decide)
  have hz1 := hb1.size
  simp only [World.size_alloc] at hz1
  have hbw : Below w.heap.size w w1 := ((Below.refl _ _).alloc (Nat.le_refl _) _).trans (hb1.mono (by simp))
  have HG := Lib.hid hG
  have HB := Lib.hid hbw
  have hgl : (knownNet.treeG 3).ids.length = 3 ∧ (knownNet.treeG 3).ports.length = 3 := ⟨by kernel_rfl, by kernel_rfl⟩
  clear hin hmade hG hb1 hbw
  rw [hgl.1, hgl.2]
  go_wp2_with fail
  have HG1 : Hid (IsGraph (w1.alloc (.cells #[.slice A0 3 c0, .slice A1 3 c1] 27)) A0 c0 A1 c1 knownG) := HG.out.below ((Below.refl _ _).alloc (Nat.le_refl _) _)
  have HB1 : Hid (Below w.heap.size w (w1.alloc (.cells #[.slice A0 3 c0, .slice A1 3 c1] 27))) := HB.out.alloc HB.out.size _
  have BG1 : Hid ((w1.alloc (.cells #[.slice A0 3 c0, .slice A1 3 c1] 27)).heap[w1.heap.size]? = some (.cells #[.slice A0 3 c0, .slice A1 3 c1] 27 (0, 0))) := blk_new rfl
  refine (legit_k (w1.alloc (.cells #[.slice A0 3 c0, .slice A1 3 c1] 27)) _ (by simp) HG1.out 1 0 1).mono ?_
  rintro e w2 ⟨rfl, hb2⟩
  rw [show legit31 knownG _ = _ from known_1]
  have HG2 := Lib.hid (HG1.out.below hb2)
  have HB2 := Lib.hid (HB1.out.trans (hb2.mono HB1.out.size))
  have BG2 := Lib.hid (blk_below BG1.out hb2)
  have g20 := blk_cell (j := 0) (v := .slice A0 3 c0) BG2.out rfl
  have g21 := blk_cell (j := 1) (v := .slice A1 3 c1) BG2.out rfl
  clear hb2
  go_wp2_with fail
  refine (legit_k w2 _ rfl HG2.out 0 1 0).mono ?_
  rintro e w3 ⟨rfl, hb3⟩
  rw [show legit31 knownG _ = _ from known_2]
  have HG3 := Lib.hid (HG2.out.below hb3)
  have HB3 := Lib.hid (HB2.out.trans (hb3.mono HB2.out.size))
  have BG3 := Lib.hid (blk_below BG2.out hb3)
  have g30 := blk_cell (j := 0) (v := .slice A0 3 c0) BG3.out rfl
  have g31 := blk_cell (j := 1) (v := .slice A1 3 c1) BG3.out rfl
  clear hb3
  go_wp2_with fail
  refine (legit_k w3 _ rfl HG3.out 1 0 0).mono ?_
  rintro e w4 ⟨rfl, hb4⟩
  rw [show legit31 knownG _ = _ from known_3]
  have HG4 := Lib.hid (HG3.out.below hb4)
  have HB4 := Lib.hid (HB3.out.trans (hb4.mono HB3.out.size))
  have BG4 := Lib.hid (blk_below BG3.out hb4)
  have g40 := blk_cell (j := 0) (v := .slice A0 3 c0) BG4.out rfl
  have g41 := blk_cell (j := 1) (v := .slice A1 3 c1) BG4.out rfl
  clear hb4
  go_wp2_with fail
  refine (members_k w4 _ rfl HG4.out 1 0 1).mono ?_
  rintro e w5 ⟨rfl, hb5⟩
  rw [show members31 knownG _ = _ from known_4]
  have HG5 := Lib.hid (HG4.out.below hb5)
  have HB5 := Lib.hid (HB4.out.trans (hb5.mono HB4.out.size))
  have BG5 := Lib.hid (blk_below BG4.out hb5)
  have g50 := blk_cell (j := 0) (v := .slice A0 3 c0) BG5.out rfl
  have g51 := blk_cell (j := 1) (v := .slice A1 3 c1) BG5.out rfl
  clear hb5
  go_wp2_with fail
  go_ret
  exact ⟨rfl, HB5.out⟩
end Go.Proofs.Ythapikakneikbaa
