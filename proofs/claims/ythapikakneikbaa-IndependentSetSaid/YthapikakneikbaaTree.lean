/-
  selfstabworld.Net.Tree, more, Connected, Any.
-/
import Derived.Test.YthapikakneikbaaGood
import Derived.Deep.RegionHeld3
import Derived.IntWalk
namespace Go.Proofs.Ythapikakneikbaa
open Go.RowKit

structure Net where
  N : Int
  links : List Int
  weights : List Int
  ids : List Int
  ap : Bool
  back : Bool
/-- The net's lists in memory. -/
structure Net.In (x : Net) (w : World) (AL AW AI : Option Addr) : Prop where
  hL : (Kd.int .i64).C w AL x.links
  hW : (Kd.int .i64).C w AW x.weights
  hI : (Kd.int .i64).C w AI x.ids
theorem Net.In.below {x : Net} {w w1 : World} {AL AW AI : Option Addr} (h : x.In w AL AW AI) (hb : Below w.heap.size w w1) : x.In w1 AL AW AI := ⟨Kd.C_below h.hL hb, Kd.C_below h.hW hb, Kd.C_below h.hI hb⟩

def treeRows (x : Net) (n : Nat) : Nat → List (List Link)
  | 0 => List.replicate n []
  | k + 1 => linkRows x.back (treeRows x n k) (within (at0 x.links k) (k + 1)).toNat (k + 1) (1 + within (at0 x.weights k) 15)
theorem tree_good (x : Net) (n k : Nat) (hk : k + 1 ≤ n) : Good n (treeRows x n k) := by
  induction k with
  | zero => exact good_none n
  | succ k ih =>
    have h1 := within_bd (v := at0 x.links k) (m := (k : Int) + 1) (by omega)
    have h2 := within_bd (v := at0 x.weights k) (m := 15) (by omega)
    exact good_link (ih (by omega)) _ (by omega) (by omega) (by omega)

/-- What a function that makes a graph leaves: the graph's rows are the call's own. -/
def Made (B : Nat) (ids : List Int) (rows : List (List Link)) (w w' : World) (e : Ending) : Prop :=
  ∃ A c P vs, e = .returned (.agg #[.slice A ids.length c, .slice (some ⟨P, 0, none⟩) rows.length rows.length]) ∧ ids.length ≤ c ∧ w'.ownsRow B 3 1 (.slice A ids.length c) ids.length (icells ids) ∧ PortsAt w' B P vs rows ∧ Below w.heap.size w w'

theorem own_base {w : World} {base B : Nat} {e : TypeId} {size n : Nat} {v : Value} {xs : List Value} (h : w.ownsRow base e size v n xs) (hb : B ≤ base) : w.ownsRow B e size v n xs := by
  rcases h with ⟨h1, h2 | ⟨g, cap, cur, h3, h4, h5⟩⟩
  · exact ⟨h1, .inl h2⟩
  · exact ⟨h1, .inr ⟨g, cap, cur, h3, by omega, h5⟩⟩
theorem PortsAt.base {w : World} {base B P : Nat} {vs : List Value} {rows : List (List Link)} (h : PortsAt w base P vs rows) (hb : B ≤ base) : PortsAt w B P vs rows :=
  ⟨h.blk, ⟨h.rows.len, fun u v ps h1 h2 => own_base (h.rows.own u v ps h1 h2) hb, h.rows.apart, h.rows.nil⟩, by have := h.hP; omega⟩
theorem own_spared {w w1 : World} {base : Nat} {n : Nat} {v : Value} {xs : List Value} (h : w.ownsRow base 3 1 v n xs) (hs : Spared w w1) : w1.ownsRow base 3 1 v n xs := by
  rcases h with ⟨h1, h2 | ⟨g, cap, cur, h3, h4, h5, h6⟩⟩
  · exact ⟨h1, .inl h2⟩
  · exact ⟨h1, .inr ⟨g, cap, cur, h3, h4, hs g cur _ h5 (by decide) (by decide), h6⟩⟩

/-- A store into a block of another kind. -/
theorem PortsAt.setNil {w : World} {base P : Nat} {vs : List Value} {rows : List (List Link)} {p : Addr} {u : Value} {cs : Array Value} {T : TypeId} (h : PortsAt w base P vs rows) (hb : w.heap[p.block]? = some (.cells cs T (0, 0))) (h1 : T ≠ 60) (h2 : T ≠ 52) : PortsAt (w.setCell p u) base P vs rows := by
  refine ⟨blk_far h.blk fun e => ?_, h.rows.keep (grown_set w p u) fun v hv => .inr fun e => ?_, h.hP⟩
  · rw [← e, h.blk] at hb
    injection hb with hb
    injection hb with _ hb
    exact h2 hb.symm
  · obtain ⟨k, hk, rfl⟩ := List.mem_iff_getElem.1 hv
    obtain ⟨_, cells, hc⟩ := own_typed (h.rows.own k _ _ (List.getElem?_eq_getElem hk) (List.getElem?_eq_getElem (by rw [← h.rows.len]; exact hk))) p.block e
    rw [hb] at hc
    injection hc with hc
    injection hc with _ hc
    exact h1 hc
/-- What holds at the head of Tree's loop. -/
structure TreeAt (w wr : World) (cX : Array Value) (G B P n : Nat) (vI : Value) (ids : List Int) (rows : List (List Link)) : Prop where
  bX : wr.heap[w.heap.size]? = some (.cells cX 24 (0, 0))
  bR : wr.heap[w.heap.size + 1]? = some (.cells #[nilRow, nilRow] 27 (0, 0))
  bG : wr.heap[G]? = some (.cells #[vI, .slice (some ⟨P, 0, none⟩) n n] 27 (0, 0))
  len : rows.length = n
  own : wr.ownsRow B 3 1 vI n (icells ids)
  pa : ∃ vs, PortsAt wr B P vs rows
  bel : Below w.heap.size w wr

theorem TreeAt.step {w wr w5 : World} {cX : Array Value} {G B P n : Nat} {vI : Value} {ids : List Int} {rows rows' : List (List Link)} {vs' : List Value} (h : TreeAt w wr cX G B P n vI ids rows) (hB : w.heap.size ≤ B) (hl : rows'.length = n)
    (hpa : PortsAt w5 B P vs' rows') (hb : Below B wr.drew w5) (hs : Spared wr.drew w5) : TreeAt w w5 cX G B P n vI ids rows' :=
  ⟨hs _ _ _ h.bX (by decide) (by decide), hs _ _ _ h.bR (by decide) (by decide), hs _ _ _ h.bG (by decide) (by decide), hl, own_spared (w := wr.drew) h.own hs, ⟨vs', hpa⟩, h.bel.trans ⟨hb.os, hb.tape, hb.output, hb.size, fun k hk => hb.block k (by omega)⟩⟩
theorem link_n (w : World) (N : Int) (vL vW vI : Value) (ap back : Bool) (v0 : Value) (base P : Nat) (n : Nat) (vs : List Value) (rows : List (List Link)) (hp : PortsAt w base P vs rows) (hl : rows.length = n) (hbase : base ≤ w.heap.size)
    (hn : n ≤ 24) (hg : Good n rows) (ka kb : Nat) (ha : ka < n) (hb : kb < n) (wt : Int) :
    Calls Try.prog 115 #[.agg #[.int .i64 N, vL, vW, vI, .bool ap, .bool back], .agg #[v0, .slice (some ⟨P, 0, none⟩) n n], .int .i64 ka, .int .i64 kb, .int .i64 wt] w
      fun e w' => LinkPost base P (linkRows back rows ka kb wt) w w' e := by
  subst hl
  exact link_calls w N vL vW vI ap back v0 base P vs rows hp hbase hn (fun r hr => by have := good_row hg hr; omega) ka kb ha hb wt

set_option maxHeartbeats 4000000 in
set_option maxRecDepth 100000 in
theorem tree_calls (w : World) (x : Net) (AL AW AI : Option Addr) (cL cW cI : Nat) (hx : x.In w AL AW AI) (most : Int) (hm1 : 1 ≤ most) (hm2 : most ≤ 24) :
    Calls Try.prog 77 #[.agg #[.int .i64 x.N, .slice AL x.links.length cL, .slice AW x.weights.length cW, .slice AI x.ids.length cI, .bool x.ap, .bool x.back], .int .i64 most] w
      (fun e w' => Made w.heap.size (nodeIds x.ids (nodeCount x.N most)) (treeRows x (nodeCount x.N most) (nodeCount x.N most - 1)) w w' e) := by
  obtain ⟨hn1, hn2, hn3⟩ := nodeCount_bd (N := x.N) hm1
  have HX := Lib.hid hx
  clear hn3
  go_enter Try.func77, Try.ntmps77
  go_wp2_with fail
  have hb0 := ((Below.refl w.heap.size w).alloc (Nat.le_refl _) (.cells #[.int .i64 x.N, .slice AL x.links.length cL, .slice AW x.weights.length cW, .slice AI x.ids.length cI, .bool x.ap, .bool x.back] 24)).alloc (by simp) (.cells #[nilRow, nilRow] 27)
  refine (nodes_calls _ _ _ _ _ _ _ (Kd.C_below hx.hI hb0) _ _ _ hm1 (by omega)).mono ?_
  rintro e w1 ⟨vI, P, rfl, hown, hpa, hb1⟩
  have hzq := hb1.size
  simp only [World.size_alloc] at hzq hown hpa
  have hl := nodeIds_length x.ids (nodeCount x.N most)
  obtain ⟨A1, c1, hvI, hl1, _⟩ := ints_reads (xs := nodeIds x.ids (nodeCount x.N most)) (by rw [hl]; exact hown)
  rw [hl] at hl1 hvI
  subst hvI
  have hT0 : TreeAt w (w1.alloc (.cells #[.slice A1 (nodeCount x.N most) c1, .slice (some ⟨P, 0, none⟩) (nodeCount x.N most) (nodeCount x.N most)] 27)) #[.int .i64 x.N, .slice AL x.links.length cL, .slice AW x.weights.length cW, .slice AI x.ids.length cI, .bool x.ap, .bool x.back]
      w1.heap.size (w.heap.size + 1 + 1) P (nodeCount x.N most) (.slice A1 (nodeCount x.N most) c1) (nodeIds x.ids (nodeCount x.N most)) (treeRows x (nodeCount x.N most) 0) := by
    refine ⟨?_, ?_, blk_new rfl, by simp [treeRows], hown.alloc _, ⟨_, hpa.alloc _⟩, ?_⟩
    · exact blk_alloc (blk_below (blk_alloc (blk_new rfl) _) hb1) _
    · exact blk_alloc (blk_below (blk_new (by simp)) hb1) _
    · exact (hb0.trans (hb1.mono (by simp; omega))).alloc (by omega) _
  have HT0 := Lib.hid hT0
  have HGX : Hid (w.heap.size + 1 < w1.heap.size) := by unfold Hid; omega
  clear hb0 hown hpa hb1 hT0 hzq hx hl
  generalize hnn : nodeCount x.N most = n at hn1 hn2 hl1 HT0
  have HNN := Lib.hid hnn
  clear hnn
  go_wp2_with fail
  generalize w1.heap.size = G at HT0 HGX ⊢
  go_loopw [6] (fun i wr => ∃ (k : Nat), k + 1 ≤ n ∧ i = .int .i64 (k + 1 : Nat) ∧ TreeAt w wr #[.int .i64 x.N, .slice AL x.links.length cL, .slice AW x.weights.length cW, .slice AI x.ids.length cI, .bool x.ap, .bool x.back] G (w.heap.size + 1 + 1) P n (.slice A1 n c1) (nodeIds x.ids n) (treeRows x n k)) (fun i _ => n - (intOf i).toNat)
  case atStart => exact ⟨0, hn1, rfl, HT0.out⟩
  case round =>
    obtain ⟨k, hk, rfl, hT⟩ := hrel
    have HT := Lib.hid hT
    clear hT HT0
    have cG0 := blk_cell (j := 0) (v := .slice A1 n c1) HT.out.bG rfl
    have cG1 := blk_cell (j := 1) (v := .slice (some ⟨P, 0, none⟩) n n) HT.out.bG rfl
    by_cases hk2 : k + 1 < n
    · have cX0 := blk_cell (j := 0) (v := .int .i64 x.N) HT.out.bX rfl
      have cX1 := blk_cell (j := 1) (v := .slice AL x.links.length cL) HT.out.bX rfl
      have cX2 := blk_cell (j := 2) (v := .slice AW x.weights.length cW) HT.out.bX rfl
      have cX3 := blk_cell (j := 3) (v := .slice AI x.ids.length cI) HT.out.bX rfl
      have cX4 := blk_cell (j := 4) (v := .bool x.ap) HT.out.bX rfl
      have cX5 := blk_cell (j := 5) (v := .bool x.back) HT.out.bX rfl
      have HXw := Lib.hid (HX.out.below HT.out.bel)
      have h1 := within_bd (v := at0 x.links k) (m := (k : Int) + 1) (by omega)
      have h2 := within_bd (v := at0 x.weights k) (m := 15) (by omega)
      obtain ⟨la, hla⟩ : ∃ la, at0 x.links (k : Int) = la := ⟨_, rfl⟩
      obtain ⟨lb, hlb⟩ : ∃ lb, at0 x.weights (k : Int) = lb := ⟨_, rfl⟩
      have HLA := Lib.hid hla
      have HLB := Lib.hid hlb
      rw [hla] at h1
      rw [hlb] at h2
      clear hla hlb
      obtain ⟨ka, hka⟩ : ∃ ka : Nat, within la ((k : Int) + 1) = ka := ⟨_, (Int.toNat_of_nonneg h1.1).symm⟩
      have HKA := Lib.hid hka
      have hka2 : ka < k + 1 := by omega
      obtain ⟨wt, hwt⟩ : ∃ wt : Int, within lb 15 = wt := ⟨_, rfl⟩
      have HWT := Lib.hid hwt
      rw [hwt] at h2
      obtain ⟨vs, hpa⟩ := HT.out.pa
      have HPA := Lib.hid hpa
      have HXd : Hid (x.In wr.drew AL AW AI) := ⟨Kd.C_keep HXw.out.hL fun _ _ => rfl, Kd.C_keep HXw.out.hW fun _ _ => rfl, Kd.C_keep HXw.out.hI fun _ _ => rfl⟩
      have HPD : Hid (PortsAt wr.drew (w.heap.size + 1 + 1) P vs (treeRows x n k)) := ⟨HPA.out.blk, HPA.out.rows.drew, HPA.out.hP⟩
      have HG := Lib.hid (tree_good x n k (by omega))
      have HG2 := Lib.hid (tree_good x n (k + 1) (by omega))
      have HE : Hid (linkRows x.back (treeRows x n k) ka (k + 1) (1 + wt) = treeRows x n (k + 1)) := by
        unfold Hid
        rw [treeRows, HLA.out, HLB.out, HKA.out, HWT.out, Int.toNat_natCast]
      have HLS : Hid (w.heap.size + 1 + 1 ≤ wr.drew.heap.size) := by
        have := HPA.out.hP; have := blk_lt HPA.out.blk
        unfold Hid; simp; omega
      have hn24 : n ≤ 24 := by omega
      clear hka hwt h1 hpa
      go_wp2_with fail
      have hk0 : (0 : Int) ≤ (k : Int) := by omega
      have hk3 : (k : Int) + 1 ≤ 100000 := by omega
      have q1 : IntKind.i64.wrap (k : Int) = k := IntWalk.i64_in _ (by omega)
      have q2 : IntKind.i64.wrap (1 + wt) = 1 + wt := IntWalk.i64_in _ (by omega)
      have hka3 : ka < n := by omega
      go_region_held3 (fun w' => w'.cell? ⟨w.heap.size, 0, none⟩ = some (.int .i64 x.N) ∧ w'.cell? ⟨w.heap.size, 1, none⟩ = some (.slice AL x.links.length cL) ∧ w'.cell? ⟨w.heap.size, 2, none⟩ = some (.slice AW x.weights.length cW) ∧
          w'.cell? ⟨w.heap.size, 3, none⟩ = some (.slice AI x.ids.length cI) ∧ w'.cell? ⟨w.heap.size, 4, none⟩ = some (.bool x.ap) ∧ w'.cell? ⟨w.heap.size, 5, none⟩ = some (.bool x.back) ∧
          w'.cell? ⟨G, 0, none⟩ = some (.slice A1 n c1) ∧ w'.cell? ⟨G, 1, none⟩ = some (.slice (some ⟨P, 0, none⟩) n n))
        (first | exact ⟨cX0, cX1, cX2, cX3, cX4, cX5, cG0, cG1⟩ | exact ⟨d0, d1, d2, d3, d4, d5, g0, g1⟩)
        (first
          | (go_at_call 71; refine (at_calls _ _ _ _ ?_ _ hk0).mono ?_; (first | exact HXd.out.hL | exact HXd.out.hW); rintro e w3 ⟨rfl, rfl⟩; (first | rw [HLA.out] | rw [HLB.out]))
          | (go_at_call 70; refine (within_calls _ _ _ ?_).mono ?_; (first | decide | exact hk3); rintro e w3 ⟨rfl, rfl⟩; (first | rw [HKA.out] | rw [HWT.out]))
          | (go_at_call 115
             refine (link_n _ _ _ _ _ _ _ _ _ _ n _ _ HPD.out HG.out.len HLS.out hn24 HG.out ka (k + 1) hka3 hk2 _).mono ?_
             rintro e w5 ⟨rfl, ⟨vs5, hpa5⟩, hb5, hs5⟩
             rw [HE.out] at hpa5
             have HT5 := Lib.hid (HT.out.step (Nat.le_add_right _ 2) HG2.out.len hpa5 hb5 hs5)
             have d0 := blk_cell (j := 0) (v := .int .i64 x.N) HT5.out.bX rfl
             have d1 := blk_cell (j := 1) (v := .slice AL x.links.length cL) HT5.out.bX rfl
             have d2 := blk_cell (j := 2) (v := .slice AW x.weights.length cW) HT5.out.bX rfl
             have d3 := blk_cell (j := 3) (v := .slice AI x.ids.length cI) HT5.out.bX rfl
             have d4 := blk_cell (j := 4) (v := .bool x.ap) HT5.out.bX rfl
             have d5 := blk_cell (j := 5) (v := .bool x.back) HT5.out.bX rfl
             have g0 := blk_cell (j := 0) (v := .slice A1 n c1) HT5.out.bG rfl
             have g1 := blk_cell (j := 1) (v := .slice (some ⟨P, 0, none⟩) n n) HT5.out.bG rfl
             clear hpa5 hb5 hs5))
      clear q1 q2 d0 d1 d2 d3 d4 d5 g0 g1
      go_wp2_with fail
      go_roundw
      case rel => exact ⟨k + 1, by omega, by go_num, HT5.out⟩
      case measure => simp [intOf]; omega
    · have cR0 := blk_cell (j := 0) (v := nilRow) HT.out.bR rfl
      have cR1 := blk_cell (j := 1) (v := nilRow) HT.out.bR rfl
      have fR0 := blk_free 0 HT.out.bR
      have fR1 := blk_free 1 HT.out.bR
      have HKN : Hid (k = n - 1) := by unfold Hid; omega
      go_wp2_with fail
      refine bodyPost_ret (v := .agg #[.slice A1 n c1, .slice (some ⟨P, 0, none⟩) n n]) (by simp [results, Try.results77, go_sem, cR0, cR1]) rfl ?_
      rw [HNN.out, ← HKN.out]
      have hl : (nodeIds x.ids n).length = n := nodeIds_length x.ids n
      have hb1 := blk_set 0 (.slice A1 n c1) HT.out.bR (by simp)
      have ho1 := own_keep HT.out.own (grown_set wr ⟨w.heap.size + 1, 0, none⟩ (.slice A1 n c1)) (fun k hk => by cases hk; exact own_ne HT.out.own HT.out.bR (by decide))
      have ho2 := own_keep ho1 (grown_set _ ⟨w.heap.size + 1, 1, none⟩ (.slice (some ⟨P, 0, none⟩) n n)) (fun k hk => by cases hk; exact own_ne ho1 hb1 (by decide))
      obtain ⟨vs, hpa⟩ := HT.out.pa
      have hp1 := hpa.setNil (p := ⟨w.heap.size + 1, 0, none⟩) (u := .slice A1 n c1) HT.out.bR (by decide) (by decide)
      have hp2 := hp1.setNil (p := ⟨w.heap.size + 1, 1, none⟩) (u := .slice (some ⟨P, 0, none⟩) n n) hb1 (by decide) (by decide)
      exact ⟨A1, c1, P, vs, by rw [hl, HT.out.len], by rw [hl]; exact hl1, by rw [hl]; exact own_base ho2 (by omega), hp2.base (by omega), (HT.out.bel.setCell (by simp) _).setCell (by simp) _⟩
end Go.Proofs.Ythapikakneikbaa
