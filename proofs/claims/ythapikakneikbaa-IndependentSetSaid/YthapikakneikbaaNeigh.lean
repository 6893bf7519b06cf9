/-
  graph.around, graph.Neighbours; package independent.
-/
import Derived.Test.YthapikakneikbaaHolds
namespace Go.Proofs.Ythapikakneikbaa
open Go.RowKit

/-- Is u the neighbour at a port of v? -/
def adj (g : Graph) (v u : Nat) : Bool := (g.ports.getD v []).any fun l => decide (l.to_ = (u : Int))
def aroundB (g : Graph) (v : Nat) : Nat := bitsOf (adj g v) g.ports.length
/-- The nodes that have a neighbour in the set. -/
def neighB (g : Graph) (s : Nat) : Nat := if g.valid then bitsOf (fun v => decide (aroundB g v &&& s ≠ 0)) g.ports.length else 0
def orTo (ps : List Link) : Nat := ps.foldl (fun s l => s ||| 2 ^ l.to_.toNat) 0
theorem orTo_bits {n : Nat} {ps : List Link} (h : ∀ l ∈ ps, 0 ≤ l.to_ ∧ l.to_ < n) : orTo ps = bitsOf (fun u => ps.any fun l => decide (l.to_ = (u : Int))) n := by
  suffices H : ∀ (qs rs : List Link), ps = qs ++ rs → rs.foldl (fun s l => s ||| 2 ^ l.to_.toNat) (bitsOf (fun u => qs.any fun l => decide (l.to_ = (u : Int))) n) = bitsOf (fun u => ps.any fun l => decide (l.to_ = (u : Int))) n by
    have := H [] ps rfl
    rw [← this, orTo]
    congr 1
    exact (bitsOf_zero.2 (by simp)).symm
  intro qs rs
  induction rs generalizing qs with
  | nil => intro e; rw [e]; simp
  | cons l rs ih =>
    intro e
    rw [List.foldl_cons, ← ih (qs ++ [l]) (by rw [e]; simp)]
    congr 1
    have hl := h l (by rw [e]; simp)
    refine Nat.eq_of_testBit_eq fun u => ?_
    rw [Nat.testBit_or, testBit_bitsOf, testBit_bitsOf]
    simp only [List.any_append, List.any_cons, List.any_nil, Bool.or_false]
    by_cases hu : u = l.to_.toNat
    · subst hu
      rw [Nat.testBit_two_pow_self, Bool.or_true, decide_eq_true (show l.to_.toNat < n by omega), decide_eq_true (show l.to_ = (l.to_.toNat : Int) by omega)]
      simp
    · rw [Nat.testBit_two_pow_of_ne (Ne.symm hu), decide_eq_false (show ¬ l.to_ = (u : Int) by omega)]
      simp
theorem valid_link {g : Graph} (h : g.valid = true) {v : Nat} {l : Link} (hl : l ∈ g.ports.getD v []) : 0 ≤ l.to_ ∧ l.to_ < g.ports.length ∧ l.to_ ≠ v ∧ 1 ≤ l.wt ∧ l.wt ≤ 15 := by
  have hv : v < g.ports.length := by
    rcases Nat.lt_or_ge v g.ports.length with h | h
    · exact h
    · rw [List.getD_eq_getElem?_getD, List.getElem?_eq_none h] at hl; cases hl
  have hm : (⟨v, l.to_, l.wt⟩ : Edge) ∈ g.edges := mem_edgesFrom.2 ⟨v, g.ports[v], List.getElem?_eq_getElem hv, by simp, by simpa [List.getD_eq_getElem?_getD, hv] using hl⟩
  have := ((valid_iff g).1 h).2.2.2.1 _ hm
  simpa only [Edge.ok, decide_eq_true_eq] using this
theorem valid_size {g : Graph} (h : g.valid = true) : 1 ≤ g.ports.length ∧ g.ports.length ≤ 24 ∧ g.ids.length = g.ports.length := ((valid_iff g).1 h).1
theorem orTo_around {g : Graph} (h : g.valid = true) (v : Nat) : orTo (g.ports.getD v []) = aroundB g v := orTo_bits fun _ hl => ⟨(valid_link h hl).1, (valid_link h hl).2.1⟩
theorem orTo_lt {ps : List Link} (h : ∀ l ∈ ps, 0 ≤ l.to_ ∧ l.to_ < 24) : orTo ps < 4294967296 := by rw [orTo_bits (n := 24) h]; exact bitsOf_small (by decide)

set_option maxHeartbeats 1000000 in
set_option maxRecDepth 100000 in
theorem around_calls (w : World) (A0 : Option Addr) (c0 : Nat) (A1 : Option Addr) (c1 : Nat) (g : Graph) (hg : IsGraph w A0 c0 A1 c1 g) (hV : g.valid = true) (v : Int) (h0 : 0 ≤ v) (hv : v < g.ports.length) :
    Calls Try.prog 119 #[.agg #[.slice A0 g.ids.length c0, .slice A1 g.ports.length c1], .int .i64 v] w fun e w' => e = .returned (.int .u32 (aroundB g v.toNat : Nat)) ∧ Below w.heap.size w w' := by
  obtain ⟨v, rfl⟩ := Int.eq_ofNat_of_zero_le h0
  rw [Int.toNat_natCast]
  have hv' : v < g.ports.length := by omega
  obtain ⟨ad, A4, c4, hA, hcell, hl4, hC4⟩ := Kd.at_slice hg.ports v hv'
  cases hA
  have HP : Hid (g.ports.getD v [] = g.ports[v]) := by unfold Hid; simp [List.getD_eq_getElem?_getD, hv']
  generalize g.ports[v] = ps at hcell hl4 hC4 HP
  have HIN : Hid (∀ l ∈ ps, 0 ≤ l.to_ ∧ l.to_ < 24) := fun l hl => by
    have h1 := valid_link hV (v := v) (l := l) (by rw [HP.out]; exact hl)
    have h2 := valid_size hV
    omega
  have HR := Lib.hid (orTo_around hV v)
  rw [HP.out] at HR
  have HC4 := Lib.hid hC4
  have hpm := Kd.C_max hC4
  have hvm : (v : Int) < g.ports.length := by omega
  have hn := (valid_size hV).2.1
  replace hcell := cell_keeps (keeps_of ((Below.refl _ _).alloc (Nat.le_refl _) (.cells #[.slice A0 g.ids.length c0, .slice (some ad) g.ports.length c1] 27))) hcell
  clear hC4 hg hV hv'
  go_enter Try.func119, Try.ntmps119
  go_wp2_with fail
  go_loopw [5, 14] (fun s i wr => ∃ j : Nat, j ≤ ps.length ∧ i = .int .i64 j ∧ s = .int .u32 (orTo (ps.take j) : Nat) ∧ Below w.heap.size w wr) (fun _ i _ => ps.length - (intOf i).toNat)
  case atStart => exact ⟨0, Nat.zero_le _, rfl, rfl, (Below.refl _ _).alloc (Nat.le_refl _) _⟩
  case round =>
    obtain ⟨wv, rfl⟩ : ∃ wv : World, wv = wr := ⟨_, rfl⟩
    obtain ⟨j, hj, rfl, rfl, hb⟩ := hrel
    have HB := Lib.hid hb
    have hz := hb.size
    clear hb
    by_cases hlt : j < ps.length
    · obtain ⟨ad2, hA2, hx, hy⟩ := at_link (Kd.C_below HC4.out HB.out) j hlt
      cases hA2
      have hin := HIN.out _ (List.getElem_mem hlt)
      have HS : Hid (orTo (ps.take (j + 1)) = orTo (ps.take j) ||| 2 ^ ps[j].to_.toNat) := by
        unfold Hid orTo
        rw [List.take_succ_eq_append_getElem hlt, List.foldl_append]
        rfl
      have hs := orTo_lt (ps := ps.take j) fun l hl => HIN.out l (List.mem_of_mem_take hl)
      generalize ps[j].wt = y at hy
      generalize ps[j].to_ = x at hx hin HS
      generalize orTo (ps.take j) = S at hs HS
      obtain ⟨hx0, hx24⟩ := hin
      have hx0 : (0 : Int) ≤ x := by omega
      obtain ⟨x, rfl⟩ := Int.eq_ofNat_of_zero_le hx0
      rw [Int.toNat_natCast] at HS
      go_wp2_with fail
      go_roundw
      case rel => exact ⟨j + 1, by omega, by go_num, by rw [HS.out, shl1 (by omega), or_one hs (by omega)], HB.out.alloc hz _⟩
      case measure => simp [intOf]; omega
    · have HE := Lib.hid (show ps.take j = ps from List.take_of_length_le (by omega))
      go_wp2_with fail
      go_ret
      exact ⟨by rw [HE.out, HR.out]; rfl, HB.out⟩

theorem neighB_lt {g : Graph} {s : Nat} : neighB g s < 4294967296 := by
  unfold neighB
  split
  · rename_i h
    exact bitsOf_small (by have := (valid_size h).2.1; omega)
  · decide
set_option maxHeartbeats 1000000 in
set_option maxRecDepth 100000 in
theorem neigh_calls (w : World) (A0 : Option Addr) (c0 : Nat) (A1 : Option Addr) (c1 : Nat) (g : Graph) (hg : IsGraph w A0 c0 A1 c1 g) (s : Nat) (hs : s < 4294967296) :
    Calls Try.prog 78 #[.agg #[.slice A0 g.ids.length c0, .slice A1 g.ports.length c1], .int .u32 s] w fun e w' => e = .returned (.int .u32 (neighB g s : Nat)) ∧ Below w.heap.size w w' := by
  have hb0 := (Below.refl w.heap.size w).alloc (Nat.le_refl _) (.cells #[.slice A0 g.ids.length c0, .slice A1 g.ports.length c1] 27)
  have hg1 := hg.below hb0
  have HB0 := Lib.hid hb0
  clear hb0
  cases hv : g.valid with
  | false =>
    have HE : Hid (neighB g s = 0) := by unfold Hid neighB; simp [hv]
    have HV := Lib.hid hv
    clear hv
    go_enter Try.func78, Try.ntmps78
    go_wp2_with (go_at_call 80; go_must (refine (valid_calls _ _ _ _ _ _ hg1).mono ?_); rintro e w1 ⟨rfl, hb1⟩; rw [HV.out]; have HB1 := Lib.hid (HB0.out.trans (hb1.mono (by simp))); clear hb1)
    go_ret
    exact ⟨by rw [HE.out]; rfl, HB1.out⟩
  | true =>
    have HE : Hid (neighB g s = bitsOf (fun v => decide (aroundB g v &&& s ≠ 0)) g.ports.length) := by unfold Hid neighB; simp [hv]
    have HV := Lib.hid hv
    have hn := (valid_size hv).2.1
    have HL : Hid (∀ v, aroundB g v < 4294967296) := fun v => bitsOf_small (by omega)
    clear hv
    go_enter Try.func78, Try.ntmps78
    go_wp2_with fail
    refine (valid_calls _ _ _ _ _ _ hg1).mono ?_
    rintro e w1 ⟨rfl, hb1⟩
    rw [HV.out]
    have hc1 : w1.cell? ⟨w.heap.size, 1, none⟩ = some (.slice A1 g.ports.length c1) := by rw [(bcell hb1).1 _ _ (by simp)]; go_simp
    have hc0 : w1.cell? ⟨w.heap.size, 0, none⟩ = some (.slice A0 g.ids.length c0) := by rw [(bcell hb1).1 _ _ (by simp)]; go_simp
    have hz1 := hb1.size
    simp only [World.size_alloc] at hz1
    have HB1 := Lib.hid hb1
    have HBW := Lib.hid (HB0.out.trans (hb1.mono (by simp)))
    have HG := Lib.hid (hg.below HBW.out)
    clear hb1 hg1 hg
    go_wp2_with fail
    go_loopw [5, 13] (fun t i wr => ∃ v : Nat, v ≤ g.ports.length ∧ i = .int .i64 v ∧ t = .int .u32 (bitsOf (fun v => decide (aroundB g v &&& s ≠ 0)) v : Nat) ∧ Below w1.heap.size w1 wr) (fun _ i _ => g.ports.length - (intOf i).toNat)
    case atStart => exact ⟨0, Nat.zero_le _, rfl, rfl, Below.refl _ _⟩
    case round =>
      obtain ⟨wv, rfl⟩ : ∃ wv : World, wv = wr := ⟨_, rfl⟩
      obtain ⟨v, hv, rfl, rfl, hb⟩ := hrel
      have hc1v := cell_keeps (keeps_of hb) hc1
      have hc0v := cell_keeps (keeps_of hb) hc0
      have hz := hb.size
      have HB := Lib.hid hb
      have HBW2 := Lib.hid (HBW.out.trans (hb.mono (by omega)))
      have HGV := Lib.hid (HG.out.below hb)
      have hbs := bitsOf_small (p := fun v => decide (aroundB g v &&& s ≠ 0)) (n := v) (by omega)
      have HS : Hid (bitsOf (fun v => decide (aroundB g v &&& s ≠ 0)) (v + 1) = if aroundB g v &&& s ≠ 0 then bitsOf (fun v => decide (aroundB g v &&& s ≠ 0)) v ||| 2 ^ v else bitsOf (fun v => decide (aroundB g v &&& s ≠ 0)) v) := by unfold Hid; rw [bitsOf]; simp
      clear hb
      by_cases hlt : v < g.ports.length
      · generalize bitsOf (fun v => decide (aroundB g v &&& s ≠ 0)) v = S at hbs HS
        go_wp2_with fail
        refine (around_calls _ _ _ _ _ _ HGV.out HV.out _ (by omega) (by omega)).mono ?_
        rintro e w2 ⟨rfl, hb2⟩
        rw [Int.toNat_natCast]
        have hla := HL.out v
        have HB3 := Lib.hid (HB.out.trans (hb2.mono hz))
        clear hb2
        by_cases ha : aroundB g v &&& s = 0
        · have t1 : (Go.bits .and .u32 (aroundB g v : Nat) (s : Nat) != 0) = false := by rw [u32_and_nat _ s hla hs, ha]; rfl
          rw [if_neg (by simpa using ha)] at HS
          generalize aroundB g v = a at hla t1
          clear ha
          go_wp2_with fail
          go_roundw
          case rel => exact ⟨v + 1, by omega, by go_num, by rw [HS.out], HB3.out⟩
          case measure => simp [intOf]; omega
        · have t1 : (Go.bits .and .u32 (aroundB g v : Nat) (s : Nat) != 0) = true := by rw [u32_and_nat _ s hla hs, bne_iff_ne]; omega
          rw [if_pos (by simpa using ha)] at HS
          generalize aroundB g v = a at hla t1
          clear ha
          go_wp2_with fail
          go_roundw
          case rel => exact ⟨v + 1, by omega, by go_num, by rw [HS.out, shl1 (by omega), or_one hbs (by omega)], HB3.out⟩
          case measure => simp [intOf]; omega
      · have HE2 := Lib.hid (show v = g.ports.length by omega)
        go_wp2_with fail
        go_ret
        exact ⟨by rw [HE.out, HE2.out]; rfl, HBW2.out⟩

/-! ### package independent -/
theorem fit31_calls (w : World) (A0 : Option Addr) (c0 : Nat) (A1 : Option Addr) (c1 : Nat) (g : Graph) (hg : IsGraph w A0 c0 A1 c1 g) :
    Calls Try.prog 30 #[.agg #[.slice A0 g.ids.length c0, .slice A1 g.ports.length c1]] w fun e w' => e = .returned (.bool g.valid) ∧ Below w.heap.size w w' := by
  have hb0 := (Below.refl w.heap.size w).alloc (Nat.le_refl _) (.cells #[.slice A0 g.ids.length c0, .slice A1 g.ports.length c1] 27)
  have hg1 := hg.below hb0
  have HB0 := Lib.hid hb0
  clear hb0
  go_enter Try.func30, Try.ntmps30
  go_wp2_with fail
  refine (valid_calls _ _ _ _ _ _ hg1).mono ?_
  rintro e w1 ⟨rfl, hb1⟩
  have HB1 := Lib.hid (HB0.out.trans (hb1.mono (by simp)))
  clear hb1
  go_wp2_with fail
  go_ret
  exact ⟨rfl, HB1.out⟩
end Go.Proofs.Ythapikakneikbaa
