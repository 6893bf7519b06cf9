/-
  The specification's package selfstabref01: In, Has, All, Port, linksValid; selfstabworld.Bit.
-/
import Derived.Test.YthapikakneikbaaNeigh
import Derived.Test.YthapikakneikbaaLinked
import Derived.Test.YthapikakneikbaaSpec
namespace Go.Proofs.Ythapikakneikbaa
open Go.RowKit

def hasB (s : Nat) (v : Int) : Bool := decide (0 ≤ v ∧ v < 32) && s.testBit v.toNat
theorem has_calls (w : World) (s : Nat) (hs : s < 4294967296) (v : Int) : Calls Try.prog 76 #[.int .u32 s, .int .i64 v] w fun e w' => e = .returned (.bool (hasB s v)) ∧ w = w' := by
  by_cases h0 : 0 ≤ v
  · by_cases h1 : v < 32
    · obtain ⟨v, rfl⟩ := Int.eq_ofNat_of_zero_le h0
      have HE : Hid (hasB s (v : Int) = s.testBit v) := by unfold Hid hasB; rw [Int.toNat_natCast, decide_eq_true (by omega), Bool.true_and]
      go_enter Try.func76, Try.ntmps76
      go_wp2_with fail
      go_ret
      refine ⟨?_, rfl⟩
      rw [HE.out, shr_and hs]
      cases s.testBit v <;> rfl
    · have HE : Hid (hasB s v = false) := by unfold Hid hasB; rw [decide_eq_false (by omega), Bool.false_and]
      go_enter Try.func76, Try.ntmps76
      go_wp2_with fail
      go_ret
      exact ⟨by rw [HE.out]; rfl, rfl⟩
  · have HE : Hid (hasB s v = false) := by unfold Hid hasB; rw [decide_eq_false (by omega), Bool.false_and]
    go_enter Try.func76, Try.ntmps76
    go_wp2_with fail
    go_ret
    exact ⟨by rw [HE.out]; rfl, rfl⟩
theorem bit_calls (w : World) (s : Nat) (hs : s < 4294967296) (v : Int) : Calls Try.prog 13 #[.int .u32 s, .int .i64 v] w fun e w' => e = .returned (.bool (hasB s v)) ∧ w = w' := by
  by_cases h0 : 0 ≤ v
  · by_cases h1 : v < 32
    · obtain ⟨v, rfl⟩ := Int.eq_ofNat_of_zero_le h0
      have HE : Hid (hasB s (v : Int) = s.testBit v) := by unfold Hid hasB; rw [Int.toNat_natCast, decide_eq_true (by omega), Bool.true_and]
      go_enter Try.func13, Try.ntmps13
      go_wp2_with fail
      go_ret
      refine ⟨?_, rfl⟩
      rw [HE.out, shr_and hs]
      cases s.testBit v <;> rfl
    · have HE : Hid (hasB s v = false) := by unfold Hid hasB; rw [decide_eq_false (by omega), Bool.false_and]
      go_enter Try.func13, Try.ntmps13
      go_wp2_with fail
      go_ret
      exact ⟨by rw [HE.out]; rfl, rfl⟩
  · have HE : Hid (hasB s v = false) := by unfold Hid hasB; rw [decide_eq_false (by omega), Bool.false_and]
    go_enter Try.func13, Try.ntmps13
    go_wp2_with fail
    go_ret
    exact ⟨by rw [HE.out]; rfl, rfl⟩

/-- The set of the first n nodes. -/
def allB (n : Int) : Nat := 2 ^ (min n.toNat 32) - 1
theorem allB_step {v : Nat} : 2 ^ (v + 1) - 1 = (2 ^ v - 1) ||| 2 ^ v := by
  rw [all_bits, all_bits]
  simp [bitsOf]
theorem all_calls (w : World) (n : Int) : Calls Try.prog 16 #[.int .i64 n] w fun e w' => e = .returned (.int .u32 (allB n : Nat)) ∧ w = w' := by
  go_enter Try.func16, Try.ntmps16
  go_wp2_with fail
  go_loop [3, 4] (fun s i => ∃ v : Nat, v ≤ 32 ∧ (v : Int) ≤ max n 0 ∧ i = .int .i64 v ∧ s = .int .u32 (2 ^ v - 1 : Nat)) (fun _ i => 32 - (intOf i).toNat)
  case atStart => exact ⟨0, by omega, by omega, rfl, rfl⟩
  case round =>
    obtain ⟨v, h1, h2, rfl, rfl⟩ := hrel
    by_cases hv : v < 32
    · by_cases hn : (v : Int) < n
      · have hs : 2 ^ v - 1 < 4294967296 := all_lt (by omega)
        have HS := Lib.hid (allB_step (v := v))
        generalize 2 ^ v - 1 = S at hs HS
        clear h2
        go_wp2_with fail
        go_round
        case rel => exact ⟨v + 1, by omega, by omega, by go_num, by rw [HS.out, shl1 (by omega), or_one hs (by omega)]⟩
        case measure => simp [intOf]; omega
      · have HE : Hid (allB n = 2 ^ v - 1) := by unfold Hid allB; congr 2; omega
        clear h2
        go_wp2_with fail
        go_ret
        exact ⟨by rw [HE.out]; rfl, rfl⟩
    · have HE : Hid (allB n = 2 ^ v - 1) := by unfold Hid allB; congr 2; omega
      by_cases hn : (v : Int) < n
      · clear h2
        go_wp2_with fail
        go_ret
        exact ⟨by rw [HE.out]; rfl, rfl⟩
      · clear h2
        go_wp2_with fail
        go_ret
        exact ⟨by rw [HE.out]; rfl, rfl⟩

def inB (v lo hi : Int) : Bool := decide (lo ≤ v ∧ v ≤ hi)
theorem in_calls (w : World) (v lo hi : Int) : Calls Try.prog 116 #[.int .i64 v, .int .i64 lo, .int .i64 hi] w fun e w' => e = .returned (.bool (inB v lo hi)) ∧ w = w' := by
  by_cases h0 : lo ≤ v
  · by_cases h1 : v ≤ hi
    · have HE : Hid (inB v lo hi = true) := decide_eq_true ⟨h0, h1⟩
      go_enter Try.func116, Try.ntmps116
      go_wp2_with fail
      go_ret
      exact ⟨by rw [HE.out]; rfl, rfl⟩
    · have HE : Hid (inB v lo hi = false) := decide_eq_false fun h => h1 h.2
      go_enter Try.func116, Try.ntmps116
      go_wp2_with fail
      go_ret
      exact ⟨by rw [HE.out]; rfl, rfl⟩
  · have HE : Hid (inB v lo hi = false) := decide_eq_false fun h => h0 h.1
    go_enter Try.func116, Try.ntmps116
    go_wp2_with fail
    go_ret
    exact ⟨by rw [HE.out]; rfl, rfl⟩

/-- The first port that leads to u, or -1. -/
def portOf (ps : List Link) (u : Int) : Int := match ps.findIdx? (fun l => l.to_ == u) with | some k => k | none => -1
def portAt (rows : List (List Link)) (a : Nat) (b : Int) : Int := portOf (rows.getD a []) b
set_option maxRecDepth 100000 in
theorem port_calls (w : World) (v0 : Value) (A1 : Option Addr) (c1 : Nat) (rows : List (List Link)) (hr : kLink.slice.C w A1 rows) (a : Nat) (ha : a < rows.length) (b : Int) :
    Calls Try.prog 118 #[.agg #[v0, .slice A1 rows.length c1], .int .i64 a, .int .i64 b] w fun e w' => e = .returned (.int .i64 (portAt rows a b)) ∧ Below w.heap.size w w' := by
  have hb0 := (Below.refl w.heap.size w).alloc (Nat.le_refl _) (.cells #[v0, .slice A1 rows.length c1] 27)
  obtain ⟨ad, A4, c4, hA, hcell, hl4, hC4⟩ := Kd.at_slice (Kd.C_below hr hb0) a ha
  cases hA
  have HP : Hid (rows.getD a [] = rows[a]) := by unfold Hid; simp [List.getD_eq_getElem?_getD, ha]
  generalize rows[a] = ps at hcell hl4 hC4 HP
  have hpm := Kd.C_max hC4
  have hrm := Kd.C_max hr
  have HC4 := Lib.hid hC4
  have HB0 := Lib.hid hb0
  clear hr hC4 hb0
  go_enter Try.func118, Try.ntmps118
  go_wp2_with fail
  go_loop [7] (fun i => ∃ j : Nat, j ≤ ps.length ∧ i = .int .i64 j ∧ (ps.take j).any (fun l => l.to_ == b) = false) (fun i => ps.length - (intOf i).toNat)
  case atStart => exact ⟨0, Nat.zero_le _, rfl, by simp⟩
  case round =>
    obtain ⟨j, hj, rfl, hn⟩ := hrel
    have HN := Lib.hid hn
    clear hn
    by_cases hlt : j < ps.length
    · obtain ⟨ad2, hA2, hx, hy⟩ := at_link HC4.out j hlt
      cases hA2
      have HX : Hid (ps.take (j + 1) = ps.take j ++ [ps[j]]) := by unfold Hid; rw [List.take_succ_eq_append_getElem hlt]
      have HF : Hid ((ps[j].to_ == b) = true → portAt rows a b = j) := by
        intro h
        have h2 : ps.findIdx? (fun l => l.to_ == b) = some j := by
          rw [List.findIdx?_eq_some_iff_getElem]
          refine ⟨hlt, h, fun i hi => ?_⟩
          have h3 := HN.out
          rw [List.any_eq_false] at h3
          exact h3 _ (List.mem_take_iff_getElem.2 ⟨i, by omega, rfl⟩)
        unfold portAt portOf
        rw [HP.out, h2]
      generalize ps[j] = l at hx hy HX HF
      by_cases hxb : l.to_ = b
      · have t1 : (l.to_ == b) = true := by simp [hxb]
        have HE := Lib.hid (HF.out t1)
        clear hxb
        go_wp2_with fail
        go_ret
        exact ⟨by rw [HE.out]; rfl, HB0.out⟩
      · have t1 : (l.to_ == b) = false := by simp [hxb]
        clear hxb
        have HT := Lib.hid t1
        go_wp2_with fail
        go_round
        case rel => exact ⟨j + 1, by omega, by go_num, by rw [HX.out, List.any_append, HN.out]; simpa using HT.out⟩
        case measure => simp [intOf]; omega
    · have HE : Hid (portAt rows a b = -1) := by
        have h3 := HN.out
        rw [List.take_of_length_le (by omega), List.any_eq_false] at h3
        have h2 : ps.findIdx? (fun l => l.to_ == b) = none := by
          rw [List.findIdx?_eq_none_iff]
          intro x hx
          have := h3 x hx
          simpa using this
        unfold Hid portAt portOf
        rw [HP.out, h2]
      go_wp2_with fail
      go_ret
      exact ⟨by rw [HE.out]; rfl, HB0.out⟩

/-! ### linksValid -/
def linkOK (v n : Nat) (l : Link) : Bool := decide (0 ≤ l.to_ ∧ l.to_ < n ∧ l.to_ ≠ v ∧ 1 ≤ l.wt ∧ l.wt ≤ 15)
def linksB (ps : List Link) (v n : Nat) : Bool := ps.all (linkOK v n) && apart (ps.map Link.to_)
theorem links_bad {ps : List Link} {v n k : Nat} (hk : k < ps.length) (h : linkOK v n ps[k] = false ∨ ∃ u, u < k ∧ ∃ hu : u < ps.length, ps[u].to_ = ps[k].to_) : linksB ps v n = false := by
  cases hb : linksB ps v n with
  | false => rfl
  | true =>
    simp only [linksB, Bool.and_eq_true, List.all_eq_true, apart, decide_eq_true_eq] at hb
    rcases h with h | ⟨u, hu, hu2, h⟩
    · rw [hb.1 _ (List.getElem_mem hk)] at h; cases h
    · have h2 := (List.nodup_iff_pairwise_ne.1 hb.2)
      rw [List.pairwise_iff_getElem] at h2
      have := h2 u k (by simpa using hu2) (by simpa using hk) hu
      simp [h] at this
theorem links_good {ps : List Link} {v n : Nat} (h : ∀ k (hk : k < ps.length), linkOK v n ps[k] = true ∧ ∀ u (hu : u < k), ps[u].to_ ≠ ps[k].to_) : linksB ps v n = true := by
  simp only [linksB, Bool.and_eq_true, List.all_eq_true, apart, decide_eq_true_eq]
  refine ⟨fun l hl => ?_, ?_⟩
  · obtain ⟨k, hk, rfl⟩ := List.mem_iff_getElem.1 hl
    exact (h k hk).1
  · rw [List.nodup_iff_pairwise_ne, List.pairwise_iff_getElem]
    intro i j hi hj hij
    simp only [List.getElem_map]
    exact (h j (by simpa using hj)).2 i hij
/-- The links before port k are in order. -/
def LinksTo (ps : List Link) (v n k : Nat) : Prop := ∀ i (hi : i < ps.length), i < k → linkOK v n ps[i] = true ∧ ∀ u (hu : u < i), ps[u].to_ ≠ ps[i].to_
set_option maxHeartbeats 4000000 in
set_option maxRecDepth 100000 in
theorem linksValid_calls (w : World) (A : Option Addr) (c : Nat) (ps : List Link) (hp : kLink.C w A ps) (v n : Nat) (_hv : v ≤ 100) (hn : n ≤ 100) :
    Calls Try.prog 117 #[.slice A ps.length c, .int .i64 v, .int .i64 n] w fun e w' => e = .returned (.bool (linksB ps v n)) ∧ Below w.heap.size w w' := by
  have hpm := Kd.C_max hp
  have HC := Lib.hid hp
  clear hp
  go_enter Try.func117, Try.ntmps117
  go_wp2_with fail
  go_loopw [7] (fun i wr => ∃ k : Nat, k ≤ ps.length ∧ i = .int .i64 k ∧ LinksTo ps v n k ∧ Below w.heap.size w wr) (fun i _ => ps.length - (intOf i).toNat)
  case atStart => exact ⟨0, Nat.zero_le _, rfl, fun _ _ h => absurd h (Nat.not_lt_zero _), Below.refl _ _⟩
  case round =>
    obtain ⟨k, hk, rfl, hl, hb⟩ := hrel
    have HL := Lib.hid hl
    have HB := Lib.hid hb
    clear hl hb
    obtain ⟨wv, rfl⟩ : ∃ wv : World, wv = wr := ⟨_, rfl⟩
    by_cases hlt : k < ps.length
    · obtain ⟨ad, hA, hx, hy⟩ := at_link (Kd.C_below HC.out HB.out) k hlt
      subst hA
      have HBAD1 : Hid (linkOK v n ps[k] = false → linksB ps v n = false) := fun h => links_bad hlt (.inl h)
      have HBAD2 : Hid (∀ u, u < k → ∀ hu : u < ps.length, ps[u].to_ = ps[k].to_ → linksB ps v n = false) := fun u h1 h2 h3 => links_bad hlt (.inr ⟨u, h1, h2, h3⟩)
      have HSTEP : Hid (linkOK v n ps[k] = true → (∀ u (hu : u < k), ps[u].to_ ≠ ps[k].to_) → LinksTo ps v n (k + 1)) := fun h1 h2 i hi hik => by
        by_cases e : i = k
        · subst e; exact ⟨h1, h2⟩
        · exact HL.out i hi (by omega)
      generalize hkl : ps[k] = l at hx hy HBAD1 HBAD2 HSTEP
      have HKL := Lib.hid hkl
      clear hkl
      go_wp2_with fail
      refine (in_calls _ _ _ _).mono ?_
      rintro e w1 ⟨rfl, rfl⟩
      cases h1 : inB l.to_ 0 ((n : Int) - 1) with
      | false =>
        have HE := Lib.hid (HBAD1.out (by simp only [inB, decide_eq_false_iff_not] at h1; simp only [linkOK, decide_eq_false_iff_not]; omega))
        clear h1
        go_wp2_with fail
        go_ret
        exact ⟨by rw [HE.out]; rfl, HB.out⟩
      | true =>
        have H1 : Hid (0 ≤ l.to_ ∧ l.to_ < n) := by simp only [inB, decide_eq_true_eq] at h1; unfold Hid; omega
        clear h1
        by_cases h2 : l.to_ = (v : Int)
        · have t2 : (l.to_ == (v : Int)) = true := by simp [h2]
          have HE := Lib.hid (HBAD1.out (by simp only [linkOK, decide_eq_false_iff_not]; omega))
          clear h2
          go_wp2_with fail
          go_ret
          exact ⟨by rw [HE.out]; rfl, HB.out⟩
        · have t2 : (l.to_ == (v : Int)) = false := by simp [h2]
          have H2 := Lib.hid h2
          clear h2
          go_wp2_with fail
          refine (in_calls _ _ _ _).mono ?_
          rintro e w1 ⟨rfl, rfl⟩
          cases h3 : inB l.wt 1 15 with
          | false =>
            have HE := Lib.hid (HBAD1.out (by simp only [inB, decide_eq_false_iff_not] at h3; simp only [linkOK, decide_eq_false_iff_not]; omega))
            clear h3
            go_wp2_with fail
            go_ret
            exact ⟨by rw [HE.out]; rfl, HB.out⟩
          | true =>
            have HOK : Hid (linkOK v n l = true) := by
              have a1 := H1.out
              have a2 := H2.out
              simp only [inB, decide_eq_true_eq] at h3
              unfold Hid
              simp only [linkOK, decide_eq_true_eq]
              omega
            clear h3
            go_wp2_with fail
            go_loopw [8] (fun i wr => ∃ u : Nat, u ≤ k ∧ i = .int .i64 u ∧ (∀ t (ht : t < ps.length), t < u → ps[t].to_ ≠ l.to_) ∧ Below w.heap.size w wr) (fun i _ => k - (intOf i).toNat)
            case atStart => exact ⟨0, Nat.zero_le _, rfl, fun _ _ h => absurd h (Nat.not_lt_zero _), HB.out⟩
            case round =>
              obtain ⟨wq, rfl⟩ : ∃ wq : World, wq = wr := ⟨_, rfl⟩
              obtain ⟨u, hu, rfl, hne, hb2⟩ := hrel
              have HNE := Lib.hid hne
              have HB2 := Lib.hid hb2
              clear hne hb2
              by_cases huk : u < k
              · have hul : u < ps.length := by omega
                obtain ⟨ad3, hA3, hx3, hy3⟩ := at_link (Kd.C_below HC.out HB2.out) u hul
                cases hA3
                obtain ⟨ad4, hA4, hx4, hy4⟩ := at_link (Kd.C_below HC.out HB2.out) k hlt
                cases hA4
                rw [HKL.out] at hx4
                have HB2L : Hid (ps[u].to_ = l.to_ → linksB ps v n = false) := fun h => HBAD2.out u huk hul h
                have HN2 : Hid (ps[u].to_ ≠ l.to_ → ∀ t (ht : t < ps.length), t < u + 1 → ps[t].to_ ≠ l.to_) := fun h t ht htu => by
                  by_cases e : t = u
                  · subst e; exact h
                  · exact HNE.out t ht (by omega)
                have b1 : (u : Int) < (ps.length : Int) := by omega
                have b2 : (k : Int) < (ps.length : Int) := by omega
                have b3 : (0 : Int) ≤ (u : Int) := by omega
                have b4 : (0 : Int) ≤ (k : Int) := by omega
                generalize ps[u].wt = y3 at hy3
                generalize ps[u].to_ = x3 at hx3 HB2L HN2
                clear hx hy hy4
                by_cases he : x3 = l.to_
                · have t5 : (x3 == l.to_) = true := by simp [he]
                  have HE := Lib.hid (HB2L.out he)
                  clear he
                  go_wp2_with fail
                  go_quiet (fail)
                  go_wp2_with fail
                  go_ret
                  exact ⟨by rw [HE.out]; rfl, below_drewN HB2.out _⟩
                · have t5 : (x3 == l.to_) = false := by simp [he]
                  have HE := Lib.hid (HN2.out he)
                  clear he
                  go_wp2_with fail
                  go_quiet (fail)
                  go_wp2_with fail
                  go_roundw
                  case rel => exact ⟨u + 1, by omega, by go_num, HE.out, below_drewN HB2.out _⟩
                  case measure => simp [intOf]; omega
              · have HS := Lib.hid (HSTEP.out HOK.out fun t ht => HNE.out t (by omega) (by omega))
                go_wp2_with fail
                go_roundw
                case rel => exact ⟨k + 1, by omega, by go_num, HS.out, HB2.out⟩
                case measure => simp [intOf]; omega
    · have HE : Hid (linksB ps v n = true) := links_good fun i hi => HL.out i hi (by omega)
      go_wp2_with fail
      go_ret
      exact ⟨by rw [HE.out]; rfl, HB.out⟩
end Go.Proofs.Ythapikakneikbaa
