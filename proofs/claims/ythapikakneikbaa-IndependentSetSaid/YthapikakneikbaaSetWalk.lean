/-
  selfstablaw31.IndependentSet returns true.
-/
import Derived.Test.YthapikakneikbaaSetLaw
namespace Go.Proofs.Ythapikakneikbaa
open Go.RowKit

set_option maxHeartbeats 8000000 in
set_option maxRecDepth 100000 in
theorem set31_calls (w : World) (x : Net) (AL AW AI : Option Addr) (cL cW cI : Nat) (hx : x.In w AL AW AI) (AR : Option Addr) (cR : Nat) (raw : List Int) (hr : (Kd.int .i64).C w AR raw) :
    Calls Try.prog 3 #[.agg #[.int .i64 x.N, .slice AL x.links.length cL, .slice AW x.weights.length cW, .slice AI x.ids.length cI, .bool x.ap, .bool x.back], .slice AR raw.length cR] w
      fun e w' => e = .returned (.bool true) ∧ Below w.heap.size w w' := by
  have hV := x.any_valid (most := 9) (by decide) (by decide)
  have hnle : x.n 9 ≤ 24 := by have := x.n_bd (most := 9) (by decide); omega
  have HX := Lib.hid hx
  have HR := Lib.hid hr
  clear hx hr
  go_enter Try.func3, Try.ntmps3
  go_wp2_with fail
  refine (any_calls _ x _ _ _ cL cW cI (HX.out.alloc _) 9 (by decide) (by decide)).mono ?_
  intro e w1 hmade
  obtain ⟨A0, c0, A1, c1, rfl, hG, hb1⟩ := made_reads hmade hnle
  have hz1 := hb1.size
  simp only [World.size_alloc] at hz1
  have hbw : Below w.heap.size w w1 := ((Below.refl _ _).alloc (Nat.le_refl _) _).trans (hb1.mono (by simp))
  generalize x.anyG 9 = g at hV hG ⊢
  have HV := Lib.hid hV
  have hn := valid_size hV
  obtain ⟨hn1, hn2, hn3⟩ := hn
  have HN3 := Lib.hid hn3
  have HG := Lib.hid hG
  have HB := Lib.hid hbw
  clear hmade hG hb1 hbw hV hn3
  go_wp2_with fail
  have bG : (w1.alloc (.cells #[.slice A0 g.ids.length c0, .slice A1 g.ports.length c1] 27)).heap[w1.heap.size]? = some (.cells #[.slice A0 g.ids.length c0, .slice A1 g.ports.length c1] 27 (0, 0)) := blk_new rfl
  have hg2 := HG.out.below ((Below.refl w1.heap.size w1).alloc (Nat.le_refl _) (.cells #[.slice A0 g.ids.length c0, .slice A1 g.ports.length c1] 27))
  have hb2 := HB.out.alloc HB.out.size (.cells #[.slice A0 g.ids.length c0, .slice A1 g.ports.length c1] 27)
  generalize w1.alloc _ = w2 at bG hg2 hb2 ⊢
  generalize w1.heap.size = G at bG ⊢
  have HG2 := Lib.hid hg2
  have HB2 := Lib.hid hb2
  have HBG2 := Lib.hid bG
  have cG0 := blk_cell (j := 0) (v := .slice A0 g.ids.length c0) bG rfl
  have cG1 := blk_cell (j := 1) (v := .slice A1 g.ports.length c1) bG rfl
  have HGd : Hid (IsGraph w2.drew A0 c0 A1 c1 g) := hg2.keep (fun _ _ => rfl)
  have HBd : Hid (Below w.heap.size w w2.drew) := below_drew hb2
  have HBGd : Hid (w2.drew.heap[G]? = some (.cells #[.slice A0 g.ids.length c0, .slice A1 g.ports.length c1] 27 (0, 0))) := bG
  clear hg2 hb2 bG HG HB hz1
  go_region_held3 (fun w' => w'.cell? ⟨G, 0, none⟩ = some (.slice A0 g.ids.length c0) ∧ w'.cell? ⟨G, 1, none⟩ = some (.slice A1 g.ports.length c1))
    (first | exact ⟨cG0, cG1⟩ | exact ⟨d0, d1⟩ | exact ⟨f0, f1⟩)
    (first
      | (go_at_call 11
         refine (vars31_calls _).mono ?_
         rintro e w3 ⟨⟨AV, rfl, hv3⟩, hb3⟩
         have HV3 := Lib.hid hv3
         have HB3 := Lib.hid (HBd.out.trans (hb3.mono HBd.out.size))
         have HG3 := Lib.hid (HGd.out.below hb3)
         have hbg3 := blk_below HBGd.out hb3
         have HBG3 := Lib.hid hbg3
         have d0 := blk_cell (j := 0) (v := .slice A0 g.ids.length c0) hbg3 rfl
         have d1 := blk_cell (j := 1) (v := .slice A1 g.ports.length c1) hbg3 rfl
         clear hv3 hb3 hbg3)
      | (go_at_call 10
         refine (config_calls _ A0 c0 A1 c1 g HG3.out HV.out _ 1 [varM] HV3.out (by decide) varM_small _ _ raw (Kd.C_below HR.out HB3.out)).mono ?_
         rintro e w4 ⟨⟨AC, kC, rfl, hkC, hC⟩, hb4⟩
         have HC := Lib.hid hC
         have HB4 := Lib.hid (HB3.out.trans (hb4.mono HB3.out.size))
         have HG4 := Lib.hid (HG3.out.below hb4)
         have hbg4 := blk_below HBG3.out hb4
         have HBG4 := Lib.hid hbg4
         have f0 := blk_cell (j := 0) (v := .slice A0 g.ids.length c0) hbg4 rfl
         have f1 := blk_cell (j := 1) (v := .slice A1 g.ports.length c1) hbg4 rfl
         clear hC hb4 hbg4))
  have hcl := cfg_len g [varM] raw
  have HS1 : Hid (members31 g (cfg g [varM] raw) = whereB (cfg g [varM] raw) 0) := by unfold Hid members31; rw [HV.out, cfg31_holds]; rfl
  have HS2 := Lib.hid (set31 HV.out raw)
  have HS3 : Hid (∀ v, v < g.ports.length → hasB (whereB (cfg g [varM] raw) 0) (v : Int) = (within (at0 raw (v : Int)) 2 == 1)) := fun v hv => where31 HV.out raw hv
  have HS4 : Hid (∀ v (hv : v < (cfg g [varM] raw).length), (cfg g [varM] raw)[v] = [within (at0 raw (v : Int)) 2]) := fun v hv => by
    have h1 := cfg_at (g := g) (vars := [varM]) (raw := raw) (by rw [cfg_len] at hv; exact hv)
    rw [List.getD_eq_getElem?_getD, List.getElem?_eq_getElem hv] at h1
    exact h1.trans (cfg31_cell g raw v)
  have HSL : Hid (whereB (cfg g [varM] raw) 0 < 4294967296) := whereB_lt (by rw [cfg_len]; omega)
  rw [hcl] at hkC
  generalize hcc : cfg g [varM] raw = c at HC hcl HS1 HS2 HS3 HS4 HSL ⊢
  clear hcc
  generalize whereB c 0 = s at HS1 HS2 HS3 HSL
  have hs := HSL.out
  have HCL := Lib.hid hcl
  clear hcl
  rw [HCL.out]
  go_wp2_with fail
  have hmem := members31_calls w4 A0 c0 A1 c1 g HG4.out AC kC c HC.out
  rw [HCL.out, HS1.out] at hmem
  refine hmem.mono ?_
  rintro e w5 ⟨rfl, hb5⟩
  have HB5 := Lib.hid (HB4.out.trans (hb5.mono HB4.out.size))
  have HG5 := Lib.hid (HG4.out.below hb5)
  have HC5 := Lib.hid (Kd.C_below HC.out hb5)
  have hbg5 := blk_below HBG4.out hb5
  have HBG5 := Lib.hid hbg5
  have k0 := blk_cell (j := 0) (v := .slice A0 g.ids.length c0) hbg5 rfl
  have k1 := blk_cell (j := 1) (v := .slice A1 g.ports.length c1) hbg5 rfl
  clear hmem hb5 hbg5 cG0 cG1 d0 d1 f0 f1
  go_wp2_with fail
  go_loopw [8] (fun i wr => ∃ v : Nat, v ≤ g.ports.length ∧ i = .int .i64 v ∧ wr.heap = w5.heap ∧ Below w.heap.size w wr) (fun i _ => g.ports.length - (intOf i).toNat)
  case atStart => exact ⟨0, Nat.zero_le _, rfl, rfl, HB5.out⟩
  case round =>
    obtain ⟨wq, rfl⟩ : ∃ wq : World, wq = wr := ⟨_, rfl⟩
    obtain ⟨v, hv, rfl, hh, hbq⟩ := hrel
    have HH := Lib.hid hh
    have HBQ := Lib.hid hbq
    have HKQ : Hid (Keeps w5 wq) := fun j _ => by rw [hh]
    have HBGQ : Hid (wq.heap[G]? = some (.cells #[.slice A0 g.ids.length c0, .slice A1 g.ports.length c1] 27 (0, 0))) := by unfold Hid; rw [hh]; exact HBG5.out
    clear hh hbq k0 k1
    by_cases hlt : v < g.ports.length
    · have hvc : v < c.length := by have := HCL.out; omega
      obtain ⟨ad, AR2, cR2, rfl, hcell, hlr, hCr⟩ := Kd.at_slice (Kd.C_keep HC5.out HKQ.out) v hvc
      have hrow := HS4.out v hvc
      rw [hrow] at hcell hlr hCr
      obtain ⟨ad2, rfl, hc2⟩ := Kd.at_int hCr 0 (by simp)
      have h3 := HS3.out v hlt
      simp only [List.getElem_cons_zero, List.length_cons, List.length_nil, Nat.zero_add] at hc2 hcell hlr
      generalize within (at0 raw (v : Int)) 2 = y at hc2 h3
      clear hrow hCr
      have b1 : (v : Int) < (g.ports.length : Int) := by omega
      have b3 : (0 : Int) ≤ (v : Int) := by omega
      have hc3 : wq.cell? ad2 = some (.int .i64 y) := hc2
      clear hc2
      have hq4 : ∀ (W : World) n, Calls Try.prog 13 #[.int .u32 s, .int .i64 v] (W.drewN n) fun e w'' => e = .returned (.bool (hasB s v)) ∧ ∃ m, w'' = W.drewN m := fun W n => Calls.quiet_of_same ((bit_calls _ s hs _).mono (fun _ _ h => ⟨h.1, h.2.symm⟩))
      have HQ4 := Lib.hid hq4
      clear hq4
      go_wp2_with fail
      go_quiet ((go_at_call 13; exact HQ4.out _ _))
      go_wp2_with fail
      go_roundw
      case rel => exact ⟨v + 1, by omega, by go_num, HH.out, below_drewN HBQ.out _⟩
      case measure => simp [intOf]; omega
    · have k0 := blk_cell (j := 0) (v := .slice A0 g.ids.length c0) HBGQ.out rfl
      have k1 := blk_cell (j := 1) (v := .slice A1 g.ports.length c1) HBGQ.out rfl
      have HGQ : Hid (IsGraph wq A0 c0 A1 c1 g) := HG5.out.keep HKQ.out
      have HCQ : Hid (kConf.C wq AC c) := Kd.C_keep HC5.out HKQ.out
      have HAL : Hid (allB (g.ports.length : Int) = 2 ^ g.ports.length - 1) := by
        unfold Hid allB
        rw [Int.toNat_natCast, Nat.min_eq_left (by omega)]
      go_wp2_with fail
      refine (refindep_calls _ _ _ _ _ _ HGQ.out s hs).mono ?_
      rintro e w6 ⟨rfl, hb6⟩
      have HB6 := Lib.hid (HBQ.out.trans (hb6.mono HBQ.out.size))
      have HG6 := Lib.hid (HGQ.out.below hb6)
      have HC6 := Lib.hid (Kd.C_below HCQ.out hb6)
      have hbg6 := blk_below HBGQ.out hb6
      have HBG6 := Lib.hid hbg6
      have m0 := blk_cell (j := 0) (v := .slice A0 g.ids.length c0) hbg6 rfl
      have m1 := blk_cell (j := 1) (v := .slice A1 g.ports.length c1) hbg6 rfl
      clear hb6 hbg6 k0 k1
      cases hind : indepB g s with
      | false =>
        have HS5 : Hid (legit31 g c = false) := by unfold Hid; rw [HS2.out, hind]; rfl
        clear hind
        go_wp2_with fail
        refine (known31_calls _).mono ?_
        rintro e w7 ⟨rfl, hb7⟩
        have HB7 := Lib.hid (HB6.out.trans (hb7.mono HB6.out.size))
        have hbg7 := blk_below HBG6.out hb7
        have p0 := blk_cell (j := 0) (v := .slice A0 g.ids.length c0) hbg7 rfl
        have p1 := blk_cell (j := 1) (v := .slice A1 g.ports.length c1) hbg7 rfl
        have HL7 := Lib.hid (legit31_calls w7 A0 c0 A1 c1 g (HG6.out.below hb7) AC kC c (Kd.C_below HC6.out hb7))
        clear hb7 hbg7 m0 m1
        go_wp2_with fail
        have hleg := HL7.out
        rw [HCL.out, HS5.out] at hleg
        refine hleg.mono ?_
        rintro e w8 ⟨rfl, hb8⟩
        have HB8 := Lib.hid (HB7.out.trans (hb8.mono HB7.out.size))
        clear hb8 hleg p0 p1
        go_wp2_with fail
        go_ret
        exact ⟨rfl, HB8.out⟩
      | true =>
        have HS5 : Hid (legit31 g c = decide (s ||| neighB g s = 2 ^ g.ports.length - 1)) := by unfold Hid; rw [HS2.out, hind, Bool.true_and]
        clear hind
        go_wp2_with fail
        refine (refneigh_calls _ _ _ _ _ _ HG6.out s hs).mono ?_
        rintro e w9 ⟨rfl, hb9⟩
        have HB9 := Lib.hid (HB6.out.trans (hb9.mono HB6.out.size))
        have HG9 := Lib.hid (HG6.out.below hb9)
        have HC9 := Lib.hid (Kd.C_below HC6.out hb9)
        have hbg9 := blk_below HBG6.out hb9
        have HBG9 := Lib.hid hbg9
        clear hb9 hbg9 m0 m1
        have hnb := neighB_lt (g := g) (s := s)
        generalize neighB g s = nb at hnb HS5
        go_wp2_with fail
        refine (all_calls _ _).mono ?_
        rintro e w10 ⟨rfl, rfl⟩
        rw [HAL.out]
        generalize 2 ^ g.ports.length - 1 = al at HS5
        have hor : (Go.bits .or .u32 (s : Int) (nb : Int) == (al : Int)) = decide (s ||| nb = al) := by rw [u32_or_nat _ _ hs hnb, beq_nat]
        rw [← hor] at HS5
        clear hor
        generalize hbo : (Go.bits .or .u32 (s : Int) (nb : Int) == (al : Int)) = bo at HS5
        have n0 := blk_cell (j := 0) (v := .slice A0 g.ids.length c0) HBG9.out rfl
        have n1 := blk_cell (j := 1) (v := .slice A1 g.ports.length c1) HBG9.out rfl
        go_wp2_with fail
        refine (known31_calls _).mono ?_
        rintro e w7 ⟨rfl, hb7⟩
        have HB7 := Lib.hid (HB9.out.trans (hb7.mono HB9.out.size))
        have hbg7 := blk_below HBG9.out hb7
        have p0 := blk_cell (j := 0) (v := .slice A0 g.ids.length c0) hbg7 rfl
        have p1 := blk_cell (j := 1) (v := .slice A1 g.ports.length c1) hbg7 rfl
        have HL7 := Lib.hid (legit31_calls w7 A0 c0 A1 c1 g (HG9.out.below hb7) AC kC c (Kd.C_below HC9.out hb7))
        clear hb7 hbg7 n0 n1
        go_wp2_with fail
        have hleg := HL7.out
        rw [HCL.out, HS5.out] at hleg
        refine hleg.mono ?_
        rintro e w8 ⟨rfl, hb8⟩
        have HB8 := Lib.hid (HB7.out.trans (hb8.mono HB7.out.size))
        clear hb8 hleg p0 p1
        go_wp2_with fail
        go_ret
        exact ⟨by simp, HB8.out⟩
end Go.Proofs.Ythapikakneikbaa
