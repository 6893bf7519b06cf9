/-
  selfstabworld.Net.more, Connected, Any.
-/
import Derived.Test.YthapikakneikbaaTree
namespace Go.Proofs.Ythapikakneikbaa
open Go.RowKit

def moreFrom (x : Net) (n : Nat) : Nat → Nat → List (List Link) → List (List Link)
  | 0, _, rows => rows
  | f + 1, i, rows =>
    if i + 1 < x.links.length ∧ i < 60 then
      moreFrom x n f (i + 2) (linkRows x.back rows (within (at0 x.links i) n).toNat (within (at0 x.links (i + 1 : Nat)) n).toNat (1 + within (at0 x.weights i) 15))
    else rows
def moreRows (x : Net) (n : Nat) (rows : List (List Link)) : List (List Link) := moreFrom x n 61 n rows
theorem more_good (x : Net) (n : Nat) (hn : 1 ≤ n) (f i : Nat) {rows : List (List Link)} (h : Good n rows) : Good n (moreFrom x n f i rows) := by
  induction f generalizing i rows with
  | zero => exact h
  | succ f ih =>
    unfold moreFrom
    split
    · have h1 := within_bd (v := at0 x.links i) (m := (n : Int)) (by omega)
      have h2 := within_bd (v := at0 x.links (i + 1 : Nat)) (m := (n : Int)) (by omega)
      have h3 := within_bd (v := at0 x.weights i) (m := 15) (by omega)
      exact ih _ (good_link h _ (by omega) (by omega) (by omega))
    · exact h
theorem more_end {x : Net} {n f i : Nat} {rows : List (List Link)} (h : ¬ (i + 1 < x.links.length ∧ i < 60)) : moreFrom x n f i rows = rows := by
  cases f with
  | zero => rfl
  | succ f => unfold moreFrom; rw [if_neg h]

/-- What holds at the head of the loop of more. -/
structure MoreAt (w wr : World) (cX cG : Array Value) (B P n : Nat) (rows : List (List Link)) : Prop where
  bX : wr.heap[w.heap.size]? = some (.cells cX 24 (0, 0))
  bG : wr.heap[w.heap.size + 1]? = some (.cells cG 27 (0, 0))
  bR : wr.heap[w.heap.size + 2]? = some (.cells #[nilRow, nilRow] 27 (0, 0))
  len : rows.length = n
  pa : ∃ vs, PortsAt wr B P vs rows
  bel : Below B w wr
  sp : Spared w wr
theorem MoreAt.step {w wr w5 : World} {cX cG : Array Value} {B P n : Nat} {rows rows' : List (List Link)} {vs' : List Value} (h : MoreAt w wr cX cG B P n rows) (hl : rows'.length = n)
    (hpa : PortsAt w5 B P vs' rows') (hb : Below B wr.drew w5) (hs : Spared wr.drew w5) : MoreAt w w5 cX cG B P n rows' :=
  ⟨hs _ _ _ h.bX (by decide) (by decide), hs _ _ _ h.bG (by decide) (by decide), hs _ _ _ h.bR (by decide) (by decide), hl, ⟨vs', hpa⟩, h.bel.trans ⟨hb.os, hb.tape, hb.output, hb.size, hb.block⟩, h.sp.drew.trans hs⟩

theorem int_at {k : IntKind} {w : World} {ad : Addr} {xs : List Int} (h : (Kd.int k).C w (some ad) xs) (j : Nat) (hj : j < xs.length) : w.cell? (ad.add j) = some (.int k xs[j]) := by
  obtain ⟨ad', e, hc⟩ := Kd.at_int h j hj
  cases e
  exact hc

/-- What 'more' leaves. -/
def MorePost (B P n : Nat) (v0 : Value) (rows : List (List Link)) (w w' : World) (e : Ending) : Prop :=
  ∃ vs, e = .returned (.agg #[v0, .slice (some ⟨P, 0, none⟩) n n]) ∧ PortsAt w' B P vs rows ∧ Below B w w' ∧ Spared w w'

set_option maxHeartbeats 4000000 in
set_option maxRecDepth 100000 in
theorem more_calls (w0 w : World) (x : Net) (AL AW AI : Option Addr) (cL cW cI : Nat) (hx : x.In w0 AL AW AI) (hbel : Below w0.heap.size w0 w) (A1 : Option Addr) (m c1 : Nat) (P n : Nat) (vs : List Value) (rows : List (List Link))
    (hg : Good n rows) (hn1 : 1 ≤ n) (hn2 : n ≤ 24) (hpa : PortsAt w w0.heap.size P vs rows) :
    Calls Try.prog 68 #[.agg #[.int .i64 x.N, .slice AL x.links.length cL, .slice AW x.weights.length cW, .slice AI x.ids.length cI, .bool x.ap, .bool x.back], .agg #[.slice A1 m c1, .slice (some ⟨P, 0, none⟩) n n]] w
      (fun e w' => MorePost w0.heap.size P n (.slice A1 m c1) (moreRows x n rows) w w' e) := by
  have HX := Lib.hid hx
  have HPA := Lib.hid hpa
  have HG0 := Lib.hid hg
  have HBL := Lib.hid hbel
  have hzw := hbel.size
  have hcm := Kd.C_max hx.hL
  clear hx hg hbel hpa
  go_enter Try.func68, Try.ntmps68
  go_wp2_with fail
  generalize hwr : ((w.alloc _).alloc _).alloc _ = w1
  have HM0 : Hid (MoreAt w w1 #[.int .i64 x.N, .slice AL x.links.length cL, .slice AW x.weights.length cW, .slice AI x.ids.length cI, .bool x.ap, .bool x.back] #[.slice A1 m c1, .slice (some ⟨P, 0, none⟩) n n] w0.heap.size P n rows) := by
    rw [← hwr]
    exact ⟨blk_alloc (blk_alloc (blk_new rfl) _) _, blk_alloc (blk_new (by simp)) _, blk_new (by simp), HG0.out.len, ⟨vs, ((HPA.out.alloc _).alloc _).alloc _⟩,
      (((Below.refl _ _).alloc (by omega) _).alloc (by simp; omega) _).alloc (by simp; omega) _, (((Spared.refl _).alloc _).alloc _).alloc _⟩
  clear hwr
  go_loopw [6] (fun z wr => ∃ (i f : Nat) (rs : List (List Link)), z = .int .i64 i ∧ i ≤ 100 ∧ 61 ≤ f + i ∧ moreRows x n rows = moreFrom x n f i rs ∧ Good n rs ∧ MoreAt w wr #[.int .i64 x.N, .slice AL x.links.length cL, .slice AW x.weights.length cW, .slice AI x.ids.length cI, .bool x.ap, .bool x.back] #[.slice A1 m c1, .slice (some ⟨P, 0, none⟩) n n] w0.heap.size P n rs) (fun z _ => 200 - (intOf z).toNat)
  case atStart => exact ⟨n, 61, rows, rfl, by omega, by omega, rfl, HG0.out, HM0.out⟩
  case round =>
    obtain ⟨i, f, rs, rfl, hi, hf, hE, hGd, hM⟩ := hrel
    have HM := Lib.hid hM
    have HE := Lib.hid hE
    have HG := Lib.hid hGd
    clear hM HM0 hE hGd
    have cX1 := blk_cell (j := 1) (v := .slice AL x.links.length cL) HM.out.bX rfl
    have cG0 := blk_cell (j := 0) (v := .slice A1 m c1) HM.out.bG rfl
    have cG1 := blk_cell (j := 1) (v := .slice (some ⟨P, 0, none⟩) n n) HM.out.bG rfl
    by_cases hc : i + 1 < x.links.length ∧ i < 60
    · obtain ⟨hc1, hc2⟩ := hc
      obtain ⟨f, rfl⟩ : ∃ f', f = f' + 1 := ⟨f - 1, by omega⟩
      have hb0 : Below w0.heap.size w0 wr := HBL.out.trans HM.out.bel
      have HB0 := Lib.hid hb0
      have HXw := Lib.hid (HX.out.below hb0)
      clear hb0
      have cX0 := blk_cell (j := 0) (v := .int .i64 x.N) HM.out.bX rfl
      have cX2 := blk_cell (j := 2) (v := .slice AW x.weights.length cW) HM.out.bX rfl
      have cX3 := blk_cell (j := 3) (v := .slice AI x.ids.length cI) HM.out.bX rfl
      have cX4 := blk_cell (j := 4) (v := .bool x.ap) HM.out.bX rfl
      have cX5 := blk_cell (j := 5) (v := .bool x.back) HM.out.bX rfl
      obtain ⟨ad, rfl, ca⟩ := Kd.at_int HXw.out.hL i (by omega)
      have HAD : Hid (ad.add (i + 1) = ⟨ad.block, ad.off + (i + 1), none⟩) := by unfold Hid; simp [Addr.add]
      have cb := HAD.out ▸ int_at HXw.out.hL (i + 1) hc1
      have CA : Hid (∀ w5, (Kd.int .i64).C w5 (some ad) x.links → w5.cell? (ad.add i) = some (.int .i64 x.links[i])) := fun w5 h => int_at h i (by omega)
      have CB : Hid (∀ w5, (Kd.int .i64).C w5 (some ad) x.links → w5.cell? ⟨ad.block, ad.off + (i + 1), none⟩ = some (.int .i64 x.links[i + 1])) := fun w5 h => HAD.out ▸ int_at h (i + 1) hc1
      have HLA : Hid (at0 x.links (i : Int) = x.links[i]) := by unfold Hid at0; simp [List.getD_eq_getElem?_getD, List.getElem?_eq_getElem (show i < x.links.length by omega)]
      have HLB : Hid (at0 x.links ((i + 1 : Nat) : Int) = x.links[i + 1]) := by unfold Hid at0; simp only [Int.toNat_natCast]; simp [List.getD_eq_getElem?_getD, hc1]
      generalize x.links[i] = la at ca CA HLA
      generalize x.links[i + 1] = lb at cb CB HLB
      have h1 := within_bd (v := la) (m := (n : Int)) (by omega)
      have h2 := within_bd (v := lb) (m := (n : Int)) (by omega)
      have h3 := within_bd (v := at0 x.weights (i : Int)) (m := 15) (by omega)
      obtain ⟨lc, hlc⟩ : ∃ lc, at0 x.weights (i : Int) = lc := ⟨_, rfl⟩
      have HLC := Lib.hid hlc
      rw [hlc] at h3
      clear hlc
      obtain ⟨ka, hka⟩ : ∃ ka : Nat, within la (n : Int) = ka := ⟨_, (Int.toNat_of_nonneg h1.1).symm⟩
      obtain ⟨kb, hkb⟩ : ∃ kb : Nat, within lb (n : Int) = kb := ⟨_, (Int.toNat_of_nonneg h2.1).symm⟩
      obtain ⟨wt, hwt⟩ : ∃ wt : Int, within lc 15 = wt := ⟨_, rfl⟩
      have HKA := Lib.hid hka
      have HKB := Lib.hid hkb
      have HWT := Lib.hid hwt
      have hka2 : ka < n := by omega
      have hkb2 : kb < n := by omega
      rw [hwt] at h3
      obtain ⟨vs1, hpa1⟩ := HM.out.pa
      have HPA1 := Lib.hid hpa1
      have HXd : Hid (x.In wr.drew (some ad) AW AI) := ⟨Kd.C_keep HXw.out.hL fun _ _ => rfl, Kd.C_keep HXw.out.hW fun _ _ => rfl, Kd.C_keep HXw.out.hI fun _ _ => rfl⟩
      have HPD : Hid (PortsAt wr.drew w0.heap.size P vs1 rs) := ⟨HPA1.out.blk, HPA1.out.rows.drew, HPA1.out.hP⟩
      have hgl := good_link HG.out x.back hka2 hkb2 (wt := 1 + wt) (by omega)
      have HG2 := Lib.hid hgl
      have HST : Hid (moreRows x n rows = moreFrom x n f (i + 2) (linkRows x.back rs ka kb (1 + wt))) := by
        unfold Hid
        rw [HE.out]
        conv => lhs; unfold moreFrom
        rw [if_pos ⟨hc1, hc2⟩, HLA.out, HLB.out, HLC.out, HKA.out, HKB.out, HWT.out, Int.toNat_natCast, Int.toNat_natCast]
      have HLS : Hid (w0.heap.size ≤ wr.drew.heap.size) := HB0.out.size
      clear hka hkb hwt h1 h2 hpa1 hgl
      go_wp2_with fail
      have hk0 : (0 : Int) ≤ (i : Int) := by omega
      have hk1 : (0 : Int) ≤ (i : Int) + 1 := by omega
      have hk2 : (i : Int) < (x.links.length : Int) := by omega
      have hk4 : (i : Int) + 1 < (x.links.length : Int) := by omega
      have hk5 : ((i : Int) + 1).toNat = i + 1 := by omega
      have hn5 : (n : Int) ≤ 100000 := by omega
      have q1 : IntKind.i64.wrap ((i : Int) + 1) = (i : Int) + 1 := IntWalk.i64_in _ (by omega)
      have q2 : IntKind.i64.wrap (1 + wt) = 1 + wt := IntWalk.i64_in _ (by omega)
      go_region_held3 (fun w' => w'.cell? ⟨w.heap.size, 0, none⟩ = some (.int .i64 x.N) ∧ w'.cell? ⟨w.heap.size, 1, none⟩ = some (.slice (some ad) x.links.length cL) ∧ w'.cell? ⟨w.heap.size, 2, none⟩ = some (.slice AW x.weights.length cW) ∧
          w'.cell? ⟨w.heap.size, 3, none⟩ = some (.slice AI x.ids.length cI) ∧ w'.cell? ⟨w.heap.size, 4, none⟩ = some (.bool x.ap) ∧ w'.cell? ⟨w.heap.size, 5, none⟩ = some (.bool x.back) ∧
          w'.cell? ⟨w.heap.size + 1, 0, none⟩ = some (.slice A1 m c1) ∧ w'.cell? ⟨w.heap.size + 1, 1, none⟩ = some (.slice (some ⟨P, 0, none⟩) n n) ∧ w'.cell? (ad.add i) = some (.int .i64 la) ∧ w'.cell? ⟨ad.block, ad.off + (i + 1), none⟩ = some (.int .i64 lb))
        (first | exact ⟨cX0, cX1, cX2, cX3, cX4, cX5, cG0, cG1, ca, cb⟩ | exact ⟨d0, d1, d2, d3, d4, d5, g0, g1, da, db⟩)
        (first
          | (go_at_call 71; refine (at_calls _ _ _ _ HXd.out.hW _ hk0).mono ?_; rintro e w3 ⟨rfl, rfl⟩; rw [HLC.out])
          | (go_at_call 70; refine (within_calls _ _ _ ?_).mono ?_; (first | decide | exact hn5); rintro e w3 ⟨rfl, rfl⟩; (first | rw [HKA.out] | rw [HKB.out] | rw [HWT.out]))
          | (go_at_call 115
             refine (link_n _ _ _ _ _ _ _ _ _ _ n _ _ HPD.out HG.out.len HLS.out hn2 HG.out ka kb hka2 hkb2 _).mono ?_
             rintro e w5 ⟨rfl, ⟨vs5, hpa5⟩, hb5, hs5⟩
             have HT5 := Lib.hid (HM.out.step HG2.out.len hpa5 hb5 hs5)
             have hX5 := HX.out.below (HBL.out.trans HT5.out.bel)
             have d0 := blk_cell (j := 0) (v := .int .i64 x.N) HT5.out.bX rfl
             have d1 := blk_cell (j := 1) (v := .slice (some ad) x.links.length cL) HT5.out.bX rfl
             have d2 := blk_cell (j := 2) (v := .slice AW x.weights.length cW) HT5.out.bX rfl
             have d3 := blk_cell (j := 3) (v := .slice AI x.ids.length cI) HT5.out.bX rfl
             have d4 := blk_cell (j := 4) (v := .bool x.ap) HT5.out.bX rfl
             have d5 := blk_cell (j := 5) (v := .bool x.back) HT5.out.bX rfl
             have g0 := blk_cell (j := 0) (v := .slice A1 m c1) HT5.out.bG rfl
             have g1 := blk_cell (j := 1) (v := .slice (some ⟨P, 0, none⟩) n n) HT5.out.bG rfl
             have da := CA.out w5 hX5.hL
             have db := CB.out w5 hX5.hL
             clear hpa5 hb5 hs5 hX5))
      clear q1 q2 d0 d1 d2 d3 d4 d5 g0 g1 hk5 da db
      go_wp2_with fail
      go_roundw
      case rel => exact ⟨i + 2, f, _, by go_num, by omega, by omega, HST.out, HG2.out, HT5.out⟩
      case measure => simp [intOf]; omega
    · have cR0 := blk_cell (j := 0) (v := nilRow) HM.out.bR rfl
      have cR1 := blk_cell (j := 1) (v := nilRow) HM.out.bR rfl
      have fR0 := blk_free 0 HM.out.bR
      have fR1 := blk_free 1 HM.out.bR
      have HEND : Hid (moreRows x n rows = rs) := HE.out.trans (more_end hc)
      have HC := Lib.hid hc
      clear hc
      have fin : ∀ w2, w2 = (wr.setCell ⟨w.heap.size + 2, 0, none⟩ (.slice A1 m c1)).setCell ⟨w.heap.size + 2, 1, none⟩ (.slice (some ⟨P, 0, none⟩) n n) → MorePost w0.heap.size P n (.slice A1 m c1) (moreRows x n rows) w w2 (.returned (.agg #[.slice A1 m c1, .slice (some ⟨P, 0, none⟩) n n])) := by
        rintro w2 rfl
        obtain ⟨vs, hpa⟩ := HM.out.pa
        have hb1 := blk_set 0 (.slice A1 m c1) HM.out.bR (by simp)
        have hp1 := hpa.setNil (p := ⟨w.heap.size + 2, 0, none⟩) (u := .slice A1 m c1) HM.out.bR (by decide) (by decide)
        have hp2 := hp1.setNil (p := ⟨w.heap.size + 2, 1, none⟩) (u := .slice (some ⟨P, 0, none⟩) n n) hb1 (by decide) (by decide)
        rw [HEND.out]
        refine ⟨vs, rfl, hp2, (HM.out.bel.setCell (by simp; omega) _).setCell (by simp; omega) _, fun I cs T h1 h2 h3 => ?_⟩
        have := blk_lt h1
        exact blk_far (blk_far (HM.out.sp I cs T h1 h2 h3) (by simp; omega)) (by simp; omega)
      have FIN := Lib.hid fin
      clear fin
      by_cases hc1 : i + 1 < x.links.length
      · have hc2 : ¬ i < 60 := fun h => HC.out ⟨hc1, h⟩
        go_wp2_with fail
        refine bodyPost_ret (v := .agg #[.slice A1 m c1, .slice (some ⟨P, 0, none⟩) n n]) (by simp [results, Try.results68, go_sem, cR0, cR1]) rfl ?_
        exact FIN.out _ rfl
      · go_wp2_with fail
        refine bodyPost_ret (v := .agg #[.slice A1 m c1, .slice (some ⟨P, 0, none⟩) n n]) (by simp [results, Try.results68, go_sem, cR0, cR1]) rfl ?_
        exact FIN.out _ rfl
end Go.Proofs.Ythapikakneikbaa
