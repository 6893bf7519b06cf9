/-
  selfstabref01.Valid.
-/
import Derived.Test.YthapikakneikbaaRefLaw
namespace Go.Proofs.Ythapikakneikbaa
open Go.RowKit

set_option maxHeartbeats 8000000 in
set_option maxRecDepth 100000 in
theorem refvalid_late (w : World) (A0 : Option Addr) (c0 : Nat) (A1 : Option Addr) (c1 : Nat) (g : Graph) (hg : IsGraph w A0 c0 A1 c1 g) (h1 : 1 ≤ g.ports.length) (h2 : g.ports.length ≤ 24) (h3 : g.ids.length = g.ports.length) :
    Calls Try.prog 75 #[.agg #[.slice A0 g.ids.length c0, .slice A1 g.ports.length c1]] w fun e w' => e = .returned (.bool g.valid) ∧ Below w.heap.size w w' := by
  have H3 := Lib.hid h3
  have HG := Lib.hid hg
  have t1 : inB (g.ports.length : Int) 1 24 = true := by unfold inB; exact decide_eq_true ⟨by omega, by omega⟩
  have t2 : ((g.ids.length : Int) != (g.ports.length : Int)) = false := by rw [h3]; simp
  have T1 := Lib.hid t1
  clear h3 hg t1
  go_enter Try.func75, Try.ntmps75
  go_wp2_with fail
  refine (in_calls _ _ _ _).mono ?_
  rintro e w1 ⟨rfl, rfl⟩
  rw [T1.out]
  go_wp2_with fail
  have hb0 := (Below.refl w.heap.size w).alloc (Nat.le_refl _) (.cells #[.slice A0 g.ids.length c0, .slice A1 g.ports.length c1] 27)
  have bG : (w.alloc (.cells #[.slice A0 g.ids.length c0, .slice A1 g.ports.length c1] 27)).heap[w.heap.size]? = some (.cells #[.slice A0 g.ids.length c0, .slice A1 g.ports.length c1] 27 (0, 0)) := blk_new rfl
  generalize w.alloc _ = w1 at hb0 bG ⊢
  have HB0 := Lib.hid hb0
  have HBG := Lib.hid bG
  clear hb0 bG t2
  go_loopw [4] (fun i wr => ∃ v : Nat, v ≤ g.ports.length ∧ i = .int .i64 v ∧ (∀ u, u < v → RowOK g u) ∧ Below w.heap.size w wr ∧ wr.heap[w.heap.size]? = some (.cells #[.slice A0 g.ids.length c0, .slice A1 g.ports.length c1] 27 (0, 0))) (fun i _ => g.ports.length - (intOf i).toNat)
  case atStart => exact ⟨0, Nat.zero_le _, rfl, fun _ h => absurd h (Nat.not_lt_zero _), HB0.out, HBG.out⟩
  case round =>
    obtain ⟨wv, rfl⟩ : ∃ wv : World, wv = wr := ⟨_, rfl⟩
    obtain ⟨v, hv, rfl, hrow, hb, hbg⟩ := hrel
    have HROW := Lib.hid hrow
    have HB := Lib.hid hb
    have HBv := Lib.hid hbg
    have cG0 := blk_cell (j := 0) (v := .slice A0 g.ids.length c0) hbg rfl
    have cG1 := blk_cell (j := 1) (v := .slice A1 g.ports.length c1) hbg rfl
    clear hrow hb hbg HBG HB0
    by_cases hlt : v < g.ports.length
    · have hli : v < g.ids.length := by have := H3.out; omega
      have hlI : (v : Int) < (g.ids.length : Int) := by omega
      obtain ⟨ad, rfl, hc⟩ := Kd.at_int (HG.out.below HB.out).ids v hli
      obtain ⟨ad2, A4, c4, rfl, hcell, hl4, hC4⟩ := Kd.at_slice (HG.out.below HB.out).ports v hlt
      have BID : Hid (okID (g.ids.getD v 0) = false → g.valid = false) := bad_id hli
      have BLEN : Hid (g.ports.length ≤ (g.ports.getD v []).length → g.valid = false) := bad_len hlt
      have BLK : Hid (linksB (g.ports.getD v []) v g.ports.length = false → g.valid = false) := bad_links hlt
      have HI : Hid (g.ids.getD v 0 = g.ids[v]) := by unfold Hid; simp [List.getD_eq_getElem?_getD, hli]
      have HP : Hid (g.ports.getD v [] = g.ports[v]) := by unfold Hid; simp [List.getD_eq_getElem?_getD, hlt]
      rw [HI.out] at BID
      rw [HP.out] at BLEN BLK
      generalize g.ids[v] = y at hc BID HI
      generalize g.ports[v] = ps at hcell hl4 hC4 BLEN BLK HP
      have hpm := Kd.C_max hC4
      have HC4 := Lib.hid hC4
      clear hC4
      go_wp2_with fail
      refine (in_calls _ _ _ _).mono ?_
      rintro e w3 ⟨rfl, rfl⟩
      cases hok : inB y 0 255 with
      | false =>
        have HE := Lib.hid (BID.out hok)
        go_wp2_with fail
        go_ret
        exact ⟨by rw [HE.out]; rfl, HB.out⟩
      | true =>
        have HOK : Hid (okID y = true) := hok
        by_cases hlen : ps.length < g.ports.length
        · have hlenb : ¬ (g.ports.length : Int) ≤ (ps.length : Int) := by omega
          go_wp2_with fail
          refine (linksValid_calls _ _ _ ps HC4.out v g.ports.length (by omega) (by omega)).mono ?_
          rintro e w4 ⟨rfl, hb4⟩
          have hw4 := HB.out.trans (hb4.mono HB.out.size)
          have HB4 := Lib.hid hw4
          have HBG4 := Lib.hid (blk_below HBv.out hb4)
          clear hb4 hw4
          cases hlk : linksB ps v g.ports.length with
          | false =>
            have HE := Lib.hid (BLK.out hlk)
            clear hlk
            go_wp2_with fail
            go_ret
            exact ⟨by rw [HE.out]; rfl, HB4.out⟩
          | true =>
            have HLK := Lib.hid hlk
            clear hlk cG0 cG1 hok
            go_wp2_with fail
            have HLEN := Lib.hid hlen
            clear hlen hlenb
            go_loopw [5] (fun i wr => ∃ u : Nat, u ≤ v ∧ i = .int .i64 u ∧ (∀ t, t < u → g.ids.getD t 0 ≠ y) ∧ Below w.heap.size w wr ∧ wr.heap[w.heap.size]? = some (.cells #[.slice (some ad) g.ids.length c0, .slice (some ad2) g.ports.length c1] 27 (0, 0))) (fun i _ => v - (intOf i).toNat)
            case atStart => exact ⟨0, Nat.zero_le _, rfl, fun _ h => absurd h (Nat.not_lt_zero _), HB4.out, HBG4.out⟩
            case round =>
              obtain ⟨wq, rfl⟩ : ∃ wq : World, wq = wr := ⟨_, rfl⟩
              obtain ⟨u, hu, rfl, hne, hbq, hgq⟩ := hrel
              have HNE := Lib.hid hne
              have HBQ := Lib.hid hbq
              have HGQ := Lib.hid hgq
              have cG0 := blk_cell (j := 0) (v := .slice (some ad) g.ids.length c0) hgq rfl
              clear hne hbq hgq
              by_cases huv : u < v
              · have hul : u < g.ids.length := by omega
                obtain ⟨ad5, hA5, hcu⟩ := Kd.at_int (HG.out.below HBQ.out).ids u hul
                cases hA5
                obtain ⟨ad6, hA6, hcv⟩ := Kd.at_int (HG.out.below HBQ.out).ids v hli
                cases hA6
                have HIv : Hid (g.ids[v] = y) := by unfold Hid; have := HI.out; simpa [List.getD_eq_getElem?_getD, hli] using this
                rw [HIv.out] at hcv
                have HIu : Hid (g.ids.getD u 0 = g.ids[u]) := by unfold Hid; simp [List.getD_eq_getElem?_getD, hul]
                have HSAME : Hid (g.ids[u] = y → g.valid = false) := fun h => bad_same huv hli (by rw [HIu.out, HI.out, h])
                have HN2 : Hid (g.ids[u] ≠ y → ∀ t, t < u + 1 → g.ids.getD t 0 ≠ y) := fun h t ht => by
                  by_cases e : t = u
                  · subst e; rw [HIu.out]; exact h
                  · exact HNE.out t (by omega)
                generalize g.ids[u] = z at hcu HSAME HN2
                clear HIu HIv
                have b1 : (u : Int) < (g.ids.length : Int) := by omega
                have b3 : (0 : Int) ≤ (u : Int) := by omega
                have b4 : (0 : Int) ≤ (v : Int) := by omega
                by_cases he : z = y
                · have t5 : (z == y) = true := by simp [he]
                  have HE := Lib.hid (HSAME.out he)
                  clear he
                  go_wp2_with fail
                  go_quiet (fail)
                  go_wp2_with fail
                  go_ret
                  exact ⟨by rw [HE.out]; rfl, below_drewN HBQ.out _⟩
                · have t5 : (z == y) = false := by simp [he]
                  have HE := Lib.hid (HN2.out he)
                  clear he
                  go_wp2_with fail
                  go_quiet (fail)
                  go_wp2_with fail
                  go_roundw
                  case rel => exact ⟨u + 1, by omega, by go_num, HE.out, below_drewN HBQ.out _, HGQ.out⟩
                  case measure => simp [intOf]; omega
              · have HS : Hid (∀ u, u < v + 1 → RowOK g u) := fun u hu => by
                  by_cases e : u = v
                  · subst e; exact ⟨by rw [HI.out]; exact HOK.out, by rw [HP.out]; exact HLEN.out, by rw [HP.out]; exact HLK.out, fun t ht => by rw [HI.out]; exact HNE.out t (by omega)⟩
                  · exact HROW.out u (by omega)
                go_wp2_with fail
                go_roundw
                case rel => exact ⟨v + 1, by omega, by go_num, HS.out, HBQ.out, HGQ.out⟩
                case measure => simp [intOf]; omega
        · have HE := Lib.hid (BLEN.out (by omega))
          have hlenb : (g.ports.length : Int) ≤ (ps.length : Int) := by omega
          go_wp2_with fail
          go_ret
          exact ⟨by rw [HE.out]; rfl, HB.out⟩
    · have HALL : Hid (∀ u, u < g.ports.length → RowOK g u) := fun u hu => HROW.out u (by omega)
      clear HROW cG0 cG1
      go_wp2_with fail
      go_loopw [6] (fun i wr => ∃ v : Nat, v ≤ g.ports.length ∧ i = .int .i64 v ∧ (∀ u, u < v → ∀ l ∈ g.ports.getD u [], BackOK g.ports u l) ∧ Below w.heap.size w wr ∧ wr.heap[w.heap.size]? = some (.cells #[.slice A0 g.ids.length c0, .slice A1 g.ports.length c1] 27 (0, 0))) (fun i _ => g.ports.length - (intOf i).toNat)
      case atStart => exact ⟨0, Nat.zero_le _, rfl, fun _ h => absurd h (Nat.not_lt_zero _), HB.out, HBv.out⟩
      case round =>
        obtain ⟨wz, rfl⟩ : ∃ wz : World, wz = wr := ⟨_, rfl⟩
        obtain ⟨v, hv, rfl, hback, hbz, hgz⟩ := hrel
        have HBACK := Lib.hid hback
        have HBZ := Lib.hid hbz
        have HGZ := Lib.hid hgz
        clear hback hbz hgz HB HBv
        by_cases hlt : v < g.ports.length
        · go_wp2_with fail
          go_loopw [7] (fun i wr => ∃ j : Nat, j ≤ (g.ports.getD v []).length ∧ i = .int .i64 j ∧ (∀ l ∈ (g.ports.getD v []).take j, BackOK g.ports v l) ∧ Below w.heap.size w wr ∧ wr.heap[w.heap.size]? = some (.cells #[.slice A0 g.ids.length c0, .slice A1 g.ports.length c1] 27 (0, 0))) (fun i _ => (g.ports.getD v []).length - (intOf i).toNat)
          case atStart => exact ⟨0, Nat.zero_le _, rfl, fun _ h => by simp at h, HBZ.out, HGZ.out⟩
          case round =>
            obtain ⟨wq, rfl⟩ : ∃ wq : World, wq = wr := ⟨_, rfl⟩
            obtain ⟨j, hj, rfl, hbk, hbq, hgq⟩ := hrel
            have HBK := Lib.hid hbk
            have HBQ := Lib.hid hbq
            have HGQ := Lib.hid hgq
            have cG0 := blk_cell (j := 0) (v := .slice A0 g.ids.length c0) hgq rfl
            have cG1 := blk_cell (j := 1) (v := .slice A1 g.ports.length c1) hgq rfl
            have hzq := blk_lt hgq
            clear hbk hbq hgq HBZ HGZ
            obtain ⟨ad2, A4, c4, rfl, hcell, hl4, hC4⟩ := Kd.at_slice (HG.out.below HBQ.out).ports v hlt
            have HP : Hid (g.ports.getD v [] = g.ports[v]) := by unfold Hid; simp [List.getD_eq_getElem?_getD, hlt]
            rw [HP.out] at hj
            generalize g.ports[v] = ps at hcell hl4 hC4 HP hj
            have hpm := Kd.C_max hC4
            have HC4 := Lib.hid hC4
            clear hC4
            by_cases hjl : j < ps.length
            · obtain ⟨ad3, rfl, hx, hy⟩ := at_link HC4.out j hjl
              have HM : Hid (ps[j] ∈ g.ports.getD v []) := by unfold Hid; rw [HP.out]; exact List.getElem_mem hjl
              have HOKL : Hid (linkOK v g.ports.length ps[j] = true) := by
                have := (HALL.out v hlt).2.2.1
                simp only [linksB, Bool.and_eq_true, List.all_eq_true] at this
                exact this.1 _ HM.out
              have HTK : Hid (BackOK g.ports v ps[j] → ∀ l ∈ (g.ports.getD v []).take (j + 1), BackOK g.ports v l) := fun h l hl => by
                rw [HP.out, List.take_succ_eq_append_getElem hjl] at hl
                rcases List.mem_append.1 hl with hl | hl
                · exact HBK.out l (by rw [HP.out]; exact hl)
                · rw [List.mem_singleton.1 hl]; exact h
              generalize ps[j] = l at hx hy HM HOKL HTK
              obtain ⟨lt, lw⟩ := l
              have hok := HOKL.out
              simp only [linkOK, decide_eq_true_eq] at hok
              obtain ⟨o1, o2, _⟩ := hok
              obtain ⟨a, rfl⟩ := Int.eq_ofNat_of_zero_le o1
              have hal : a < g.ports.length := by omega
              have hB0 := HBQ.out
              simp only at hx hy
              have HBAD : Hid (¬ BackOK g.ports v ⟨(a : Int), lw⟩ → g.valid = false) := fun h => bad_back HM.out h
              have hpb := port_bd (g.ports.getD a []) (v : Int)
              have HPA : Hid (portAt g.ports a v = portOf (g.ports.getD a []) v) := rfl
              go_wp2_with fail
              refine (port_calls _ _ _ _ g.ports (Kd.C_below (HG.out.below HBQ.out).ports ((Below.refl _ _).alloc (Nat.le_refl _) _)) a hal _).mono ?_
              rintro e w6 ⟨rfl, hb6⟩
              obtain ⟨d0, d1, hz6, hb7⟩ := box2 hb6
              have hb8 := HBQ.out.trans (hb7.mono HBQ.out.size)
              have HB8 := Lib.hid hb8
              have HG8 := Lib.hid (blk_below HGQ.out hb7)
              have e1 := blk_cell (j := 1) (v := .slice (some ad2) g.ports.length c1) HG8.out rfl
              clear hb6 hb7 cG0 cG1 hx hy hcell
              rw [HPA.out]
              by_cases hneg : portOf (g.ports.getD a []) v < 0
              · have HE := Lib.hid (HBAD.out (by
                  rintro ⟨k, hk, hp, _⟩
                  rw [Int.toNat_natCast] at hp
                  rw [HPA.out] at hp
                  omega))
                generalize portOf (g.ports.getD a []) v = k at hneg hpb
                clear hb8
                go_wp2_with fail
                go_quiet (fail)
                go_wp2_with fail
                go_ret
                exact ⟨by rw [HE.out]; rfl, below_drewN HB8.out _⟩
              · obtain ⟨k, hk⟩ : ∃ k : Nat, portOf (g.ports.getD a []) v = k := ⟨_, (Int.toNat_of_nonneg (by omega)).symm⟩
                obtain ⟨hkl, hkt⟩ := port_some hk
                have HPK : Hid (portAt g.ports a v = k) := HPA.out.trans hk
                rw [hk]
                obtain ⟨ad7, A7, c7, hA7, hcell7, hl7, hC7⟩ := Kd.at_slice (HG.out.below hb8).ports a hal
                cases hA7
                have HPa : Hid (g.ports.getD a [] = g.ports[a]) := by unfold Hid; simp [List.getD_eq_getElem?_getD, hal]
                have HW : Hid (BackOK g.ports v ⟨(a : Int), lw⟩ ↔ ((g.ports.getD a [])[k]).wt = lw) := by
                  constructor
                  · rintro ⟨k', hk', hp', hw'⟩
                    simp only [Int.toNat_natCast] at hk' hp' hw'
                    rw [HPK.out] at hp'
                    obtain rfl : k = k' := by omega
                    exact hw'
                  · intro h
                    exact ⟨k, by simpa only [Int.toNat_natCast] using hkl, by simpa only [Int.toNat_natCast] using HPK.out, by simpa only [Int.toNat_natCast] using h⟩
                generalize hpa : g.ports.getD a [] = pa at hkl hkt HW HPa
                rw [← HPa.out] at hcell7 hl7 hC7
                have hpm7 := Kd.C_max hC7
                obtain ⟨ad8, hA8, hx8, hy8⟩ := at_link hC7 k hkl
                subst hA8
                clear hC7 hb8 hneg hpb hk hkt hx8 hpa
                generalize pa[k].wt = z at hy8 HW
                have b1 : (a : Int) < (g.ports.length : Int) := by omega
                have b2 : (k : Int) < (pa.length : Int) := by omega
                have b3 : (0 : Int) ≤ (a : Int) := by omega
                have b4 : (0 : Int) ≤ (k : Int) := by omega
                have b5 : decide ((k : Int) < 0) = false := decide_eq_false (by omega)
                by_cases hzw : z = lw
                · have t5 : (z != lw) = false := by simp [hzw]
                  have HE := Lib.hid (HTK.out (HW.out.2 hzw))
                  clear hzw
                  go_wp2_with fail
                  go_quiet (fail)
                  go_wp2_with fail
                  go_roundw
                  case rel => exact ⟨j + 1, by rw [HP.out]; omega, by go_num, HE.out, below_drewN HB8.out _, HG8.out⟩
                  case measure => simp only [intOf]; have := HP.out; rw [this]; omega
                · have t5 : (z != lw) = true := by simp [hzw]
                  have HE := Lib.hid (HBAD.out (fun h => hzw (HW.out.1 h)))
                  clear hzw
                  go_wp2_with fail
                  go_quiet (fail)
                  go_wp2_with fail
                  go_ret
                  exact ⟨by rw [HE.out]; rfl, below_drewN HB8.out _⟩
            · have HS : Hid (∀ u, u < v + 1 → ∀ l ∈ g.ports.getD u [], BackOK g.ports u l) := fun u hu l hl => by
                by_cases e : u = v
                · subst e; refine HBK.out l ?_
                  rw [HP.out] at hl ⊢
                  rw [List.take_of_length_le (by omega)]
                  exact hl
                · exact HBACK.out u (by omega) l hl
              go_wp2_with fail
              go_roundw
              case rel => exact ⟨v + 1, by omega, by go_num, HS.out, HBQ.out, HGQ.out⟩
              case measure => simp [intOf]; omega
        · have HE : Hid (g.valid = true) := ref_good ⟨h1, h2, H3.out⟩ HALL.out fun u hu => HBACK.out u (by omega)
          go_wp2_with fail
          go_ret
          exact ⟨by rw [HE.out]; rfl, HBZ.out⟩

theorem refvalid_calls (w : World) (A0 : Option Addr) (c0 : Nat) (A1 : Option Addr) (c1 : Nat) (g : Graph) (hg : IsGraph w A0 c0 A1 c1 g) :
    Calls Try.prog 75 #[.agg #[.slice A0 g.ids.length c0, .slice A1 g.ports.length c1]] w fun e w' => e = .returned (.bool g.valid) ∧ Below w.heap.size w w' := by
  by_cases h : 1 ≤ g.ports.length ∧ g.ports.length ≤ 24 ∧ g.ids.length = g.ports.length
  · exact refvalid_late w A0 c0 A1 c1 g hg h.1 h.2.1 h.2.2
  · have HV := Lib.hid (valid_no h)
    by_cases h1 : 1 ≤ g.ports.length ∧ g.ports.length ≤ 24
    · have h3 : ¬ g.ids.length = g.ports.length := fun e => h ⟨h1.1, h1.2, e⟩
      have h3b : ((g.ids.length : Int) != (g.ports.length : Int)) = true := by rw [bne_iff_ne]; omega
      have T1 : Hid (inB (g.ports.length : Int) 1 24 = true) := decide_eq_true ⟨by omega, by omega⟩
      clear h h3
      go_enter Try.func75, Try.ntmps75
      go_wp2_with fail
      refine (in_calls _ _ _ _).mono ?_
      rintro e w1 ⟨rfl, rfl⟩
      rw [T1.out]
      go_wp2_with fail
      go_ret
      exact ⟨by rw [HV.out]; rfl, (Below.refl _ _).alloc (Nat.le_refl _) _⟩
    · have T1 : Hid (inB (g.ports.length : Int) 1 24 = false) := decide_eq_false fun h => h1 ⟨by omega, by omega⟩
      clear h h1
      go_enter Try.func75, Try.ntmps75
      go_wp2_with fail
      refine (in_calls _ _ _ _).mono ?_
      rintro e w1 ⟨rfl, rfl⟩
      rw [T1.out]
      go_wp2_with fail
      go_ret
      exact ⟨by rw [HV.out]; rfl, (Below.refl _ _).alloc (Nat.le_refl _) _⟩

/-! ### Neighbours, Independent -/
/-- The nodes of the first k that have a neighbour in the set. -/
def nbTo (g : Graph) (s k : Nat) : Nat := bitsOf (fun v => (g.ports.getD v []).any fun l => hasB s l.to_) k
theorem nbTo_neigh {g : Graph} (h : g.valid = true) (s : Nat) : nbTo g s g.ports.length = neighB g s := by
  unfold nbTo neighB
  rw [if_pos h]
  refine bitsOf_congr fun v hv => ?_
  have hn := (valid_size h).2.1
  cases ha : (g.ports.getD v []).any fun l => hasB s l.to_ with
  | true =>
    obtain ⟨l, hl, hb⟩ := List.any_eq_true.1 ha
    have hin := valid_link h hl
    simp only [hasB, Bool.and_eq_true, decide_eq_true_eq] at hb
    symm
    rw [decide_eq_true_eq]
    intro h0
    have h1 : (aroundB g v &&& s).testBit l.to_.toNat = false := by rw [h0]; simp
    rw [Nat.testBit_and, aroundB, testBit_bitsOf, hb.2, Bool.and_true] at h1
    have h2 : adj g v l.to_.toNat = true := List.any_eq_true.2 ⟨l, hl, by rw [decide_eq_true_eq]; omega⟩
    rw [h2, Bool.and_true, decide_eq_false_iff_not] at h1
    omega
  | false =>
    symm
    rw [decide_eq_false_iff_not, Classical.not_not]
    refine Nat.eq_of_testBit_eq fun u => ?_
    rw [Nat.testBit_and, aroundB, testBit_bitsOf, Nat.zero_testBit]
    cases hs : s.testBit u with
    | false => simp
    | true =>
      cases hu : decide (u < g.ports.length) with
      | false => simp
      | true =>
        rw [Bool.true_and, Bool.and_true]
        refine not_true fun hadj => ?_
        obtain ⟨l, hl, he⟩ := List.any_eq_true.1 hadj
        rw [decide_eq_true_eq] at he hu
        rw [List.any_eq_false] at ha
        refine ha l hl ?_
        simp only [hasB, Bool.and_eq_true, decide_eq_true_eq]
        rw [he, Int.toNat_natCast]
        exact ⟨by omega, hs⟩
theorem or_again {a b : Nat} (h : ∀ i, b.testBit i = true → a.testBit i = true) : a ||| b = a := by
  refine Nat.eq_of_testBit_eq fun i => ?_
  rw [Nat.testBit_or]
  cases hb : b.testBit i with
  | false => simp
  | true => simp [h i hb]

set_option maxHeartbeats 8000000 in
set_option maxRecDepth 100000 in
theorem refneigh_calls (w : World) (A0 : Option Addr) (c0 : Nat) (A1 : Option Addr) (c1 : Nat) (g : Graph) (hg : IsGraph w A0 c0 A1 c1 g) (s : Nat) (hs : s < 4294967296) :
    Calls Try.prog 15 #[.agg #[.slice A0 g.ids.length c0, .slice A1 g.ports.length c1], .int .u32 s] w fun e w' => e = .returned (.int .u32 (neighB g s : Nat)) ∧ Below w.heap.size w w' := by
  have hg1 := hg.below ((Below.refl w.heap.size w).alloc (Nat.le_refl _) (.cells #[.slice A0 g.ids.length c0, .slice A1 g.ports.length c1] 27))
  have HG := Lib.hid hg
  clear hg
  cases hv : g.valid with
  | false =>
    have HE : Hid (neighB g s = 0) := by unfold Hid neighB; simp [hv]
    have HV := Lib.hid hv
    clear hv
    go_enter Try.func15, Try.ntmps15
    go_wp2_with fail
    refine (refvalid_calls _ _ _ _ _ _ hg1).mono ?_
    rintro e w1 ⟨rfl, hb1⟩
    rw [HV.out]
    obtain ⟨_, _, _, hbw⟩ := box2 hb1
    have HB := Lib.hid hbw
    clear hb1 hbw
    go_wp2_with fail
    go_ret
    exact ⟨by rw [HE.out]; rfl, HB.out⟩
  | true =>
    have HV := Lib.hid hv
    have hn := (valid_size hv).2.1
    clear hv
    go_enter Try.func15, Try.ntmps15
    go_wp2_with fail
    refine (refvalid_calls _ _ _ _ _ _ hg1).mono ?_
    rintro e w1 ⟨rfl, hb1⟩
    rw [HV.out]
    obtain ⟨d0, d1, hz1, hbw⟩ := box2 hb1
    have HB := Lib.hid hbw
    clear hb1 hbw hg1
    go_wp2_with fail
    go_loop [5, 6] (fun o i => ∃ v : Nat, v ≤ g.ports.length ∧ i = .int .i64 v ∧ o = .int .u32 (nbTo g s v : Nat)) (fun _ i => g.ports.length - (intOf i).toNat)
    case atStart => exact ⟨0, Nat.zero_le _, rfl, rfl⟩
    case round =>
      obtain ⟨v, hvl, rfl, rfl⟩ := hrel
      by_cases hlt : v < g.ports.length
      · obtain ⟨ad2, A4, c4, rfl, hcell, hl4, hC4⟩ := Kd.at_slice (HG.out.below HB.out).ports v hlt
        have HP : Hid (g.ports.getD v [] = g.ports[v]) := by unfold Hid; simp [List.getD_eq_getElem?_getD, hlt]
        generalize g.ports[v] = ps at hcell hl4 hC4 HP
        have hpm := Kd.C_max hC4
        have HC4 := Lib.hid hC4
        clear hC4
        have hS : nbTo g s v < 4294967296 := bitsOf_small (by omega)
        have HSV : Hid (nbTo g s (v + 1) = if ps.any (fun l => hasB s l.to_) then nbTo g s v ||| 2 ^ v else nbTo g s v) := by
          unfold Hid nbTo
          rw [bitsOf, HP.out]
        generalize nbTo g s v = S at hS HSV
        go_wp2_with fail
        go_loop [5, 7] (fun o i => ∃ j : Nat, j ≤ ps.length ∧ i = .int .i64 j ∧ o = .int .u32 ((if (ps.take j).any (fun l => hasB s l.to_) then S ||| 2 ^ v else S : Nat) : Int)) (fun _ i => ps.length - (intOf i).toNat)
        case atStart => exact ⟨0, Nat.zero_le _, rfl, by simp⟩
        case round =>
          obtain ⟨j, hj, rfl, rfl⟩ := hrel
          by_cases hjl : j < ps.length
          · obtain ⟨ad3, rfl, hx, hy⟩ := at_link HC4.out j hjl
            have HT : Hid ((ps.take (j + 1)).any (fun l => hasB s l.to_) = ((ps.take j).any (fun l => hasB s l.to_) || hasB s ps[j].to_)) := by
              unfold Hid
              rw [List.take_succ_eq_append_getElem hjl, List.any_append]
              simp
            generalize ps[j].wt = y at hy
            generalize ps[j].to_ = x at hx HT
            have h2v : (2 ^ v : Nat) < 4294967296 := (Nat.pow_lt_pow_right (by omega) (by omega) : 2 ^ v < 2 ^ 32)
            have hT : (if (ps.take j).any (fun l => hasB s l.to_) then S ||| 2 ^ v else S) < 4294967296 := by
              split
              · exact Nat.or_lt_two_pow (n := 32) hS h2v
              · exact hS
            have HOR : Hid ((if (ps.take j).any (fun l => hasB s l.to_) then S ||| 2 ^ v else S) ||| 2 ^ v = S ||| 2 ^ v) := by
              unfold Hid
              split
              · rw [Nat.or_assoc, Nat.or_self]
              · rfl
            generalize hpre : (ps.take j).any (fun l => hasB s l.to_) = pre at hT HT HOR ⊢
            clear hpre
            generalize hT0 : (if pre then S ||| 2 ^ v else S) = T at hT HOR ⊢
            have HT0 := Lib.hid hT0
            clear hT0
            go_wp2_with fail
            refine (has_calls _ s hs x).mono ?_
            rintro e w3 ⟨rfl, rfl⟩
            cases hb : hasB s x with
            | true =>
              have HBX := Lib.hid hb
              clear hb
              go_wp2_with fail
              go_round
              case rel => exact ⟨j + 1, by omega, by go_num, by rw [HT.out, HBX.out, Bool.or_true, if_pos rfl, shl1 (by omega), or_one hT (by omega), HOR.out]⟩
              case measure => simp [intOf]; omega
            | false =>
              have HBX := Lib.hid hb
              clear hb
              go_wp2_with fail
              go_round
              case rel => exact ⟨j + 1, by omega, by go_num, by rw [HT.out, HBX.out, Bool.or_false, HT0.out]⟩
              case measure => simp [intOf]; omega
          · have HE : Hid (ps.take j = ps) := List.take_of_length_le (by omega)
            rw [HE.out]
            go_wp2_with fail
            go_round
            case rel => exact ⟨v + 1, by omega, by go_num, by rw [HSV.out]⟩
            case measure => simp [intOf]; omega
      · have HE : Hid (nbTo g s v = neighB g s) := by
          unfold Hid
          rw [← nbTo_neigh HV.out]
          congr 1
          omega
        go_wp2_with fail
        go_ret
        exact ⟨by rw [← HE.out]; rfl, HB.out⟩

/-- Is the set an independent set of the graph? -/
def indepB (g : Graph) (s : Nat) : Bool := g.valid && decide (s &&& (4294967295 - (2 ^ g.ports.length - 1)) = 0) && decide (neighB g s &&& s = 0)
theorem zero_nat (a : Nat) : ((a : Int) == 0) = decide (a = 0) := beq_nat a 0
theorem nonzero_nat (a : Nat) : ((a : Int) != 0) = !decide (a = 0) := by rw [bne, zero_nat]
set_option maxHeartbeats 4000000 in
set_option maxRecDepth 100000 in
theorem refindep_calls (w : World) (A0 : Option Addr) (c0 : Nat) (A1 : Option Addr) (c1 : Nat) (g : Graph) (hg : IsGraph w A0 c0 A1 c1 g) (s : Nat) (hs : s < 4294967296) :
    Calls Try.prog 14 #[.agg #[.slice A0 g.ids.length c0, .slice A1 g.ports.length c1], .int .u32 s] w fun e w' => e = .returned (.bool (indepB g s)) ∧ Below w.heap.size w w' := by
  have hg1 := hg.below ((Below.refl w.heap.size w).alloc (Nat.le_refl _) (.cells #[.slice A0 g.ids.length c0, .slice A1 g.ports.length c1] 27))
  have HG := Lib.hid hg
  clear hg
  cases hv : g.valid with
  | false =>
    have HE : Hid (indepB g s = false) := by unfold Hid indepB; simp [hv]
    have HV := Lib.hid hv
    clear hv
    go_enter Try.func14, Try.ntmps14
    go_wp2_with fail
    refine (refvalid_calls _ _ _ _ _ _ hg1).mono ?_
    rintro e w1 ⟨rfl, hb1⟩
    rw [HV.out]
    obtain ⟨_, _, _, hbw⟩ := box2 hb1
    have HB := Lib.hid hbw
    clear hb1 hbw
    go_wp2_with fail
    go_ret
    exact ⟨by rw [HE.out]; rfl, HB.out⟩
  | true =>
    have HV := Lib.hid hv
    have hn := (valid_size hv).2.1
    have HA : Hid (allB (g.ports.length : Int) = 2 ^ g.ports.length - 1) := by
      unfold Hid allB
      rw [Int.toNat_natCast, Nat.min_eq_left (by omega)]
    have hal : 2 ^ g.ports.length - 1 < 4294967296 := all_lt (by omega)
    have HI : Hid (indepB g s = (decide (s &&& (4294967295 - (2 ^ g.ports.length - 1)) = 0) && decide (neighB g s &&& s = 0))) := by unfold Hid indepB; rw [hv, Bool.true_and]
    clear hv
    go_enter Try.func14, Try.ntmps14
    go_wp2_with fail
    refine (refvalid_calls _ _ _ _ _ _ hg1).mono ?_
    rintro e w1 ⟨rfl, hb1⟩
    rw [HV.out]
    obtain ⟨d0, d1, hz1, hbw⟩ := box2 hb1
    have HB := Lib.hid hbw
    clear hb1 hbw hg1
    go_wp2_with fail
    refine (all_calls _ _).mono ?_
    rintro e w3 ⟨rfl, rfl⟩
    rw [HA.out]
    have HAN : Hid (Go.bits .andNot .u32 (s : Int) ((2 ^ g.ports.length - 1 : Nat) : Int) = ((s &&& (4294967295 - (2 ^ g.ports.length - 1)) : Nat) : Int)) := u32_andNot_nat _ _ hs hal
    generalize 2 ^ g.ports.length - 1 = m at hal HAN HI
    have hZ := nonzero_nat (s &&& (4294967295 - m))
    rw [← HAN.out] at hZ
    cases hd : decide (s &&& (4294967295 - m) = 0) with
    | false =>
      rw [hd] at hZ
      have HE : Hid (indepB g s = false) := by rw [Hid, HI.out, hd]; rfl
      clear hd
      have hZ' : (Go.bits .andNot .u32 (s : Int) (m : Int) != 0) = true := hZ
      clear hZ
      go_wp2_with fail
      go_ret
      exact ⟨by rw [HE.out]; rfl, HB.out⟩
    | true =>
      rw [hd] at hZ
      have HE : Hid (indepB g s = decide (neighB g s &&& s = 0)) := by rw [Hid, HI.out, hd, Bool.true_and]
      clear hd
      have hZ' : (Go.bits .andNot .u32 (s : Int) (m : Int) != 0) = false := hZ
      clear hZ
      go_wp2_with fail
      refine (refneigh_calls _ _ _ _ _ _ (HG.out.below HB.out) s hs).mono ?_
      rintro e w4 ⟨rfl, hb4⟩
      have HB4 := Lib.hid (below_t HB.out hb4)
      clear hb4
      go_wp2_with fail
      go_ret
      refine ⟨?_, HB4.out⟩
      rw [HE.out, u32_and_nat _ _ neighB_lt hs, zero_nat]
      rfl
end Go.Proofs.Ythapikakneikbaa
