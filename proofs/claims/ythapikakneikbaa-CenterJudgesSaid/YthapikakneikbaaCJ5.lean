/-
  Lemmas and walks for this claim, part 5: Tree, More, Any, Config, RefConf, ConfBridge, PConf, GEq1, Gselfstablaw27large, GcenterFit, GshapeHolds, Gcenterconfiguration, GcenterLegit, GgraphDiameter, GcenterClaim, Peaks, PeaksBridge, GcenterCenters, MadeBridge, GselfstabworldNetTree, Gselfstablaw27known, Gselfstabref27Fit, Gselfstabref23Config, Gselfstabref23Number, Gselfstabref27Vars, Gselfstabref27Exact.
-/
import Derived.Deep.RegionHeld3
import Derived.IntWalk
import Derived.Test.YthapikakneikbaaCJ4
/-
  selfstabworld.Net.Tree, more, Connected, Any.
-/
namespace Go.Proofs.Ythapikakneikbaa
open Go.RowKit
structure Net where
  N : Int
  links : List Int
  weights : List Int
  ids : List Int
  ap : Bool
  back : Bool
/-- The net's lists in memory. -/
structure Net.In (x : Net) (w : World) (AL AW AI : Option Addr) : Prop where
  hL : (Kd.int .i64).C w AL x.links
  hW : (Kd.int .i64).C w AW x.weights
  hI : (Kd.int .i64).C w AI x.ids
theorem Net.In.below {x : Net} {w w1 : World} {AL AW AI : Option Addr} (h : x.In w AL AW AI) (hb : Below w.heap.size w w1) : x.In w1 AL AW AI := ⟨Kd.C_below h.hL hb, Kd.C_below h.hW hb, Kd.C_below h.hI hb⟩
def treeRows (x : Net) (n : Nat) : Nat → List (List Link)
  | 0 => List.replicate n []
  | k + 1 => linkRows x.back (treeRows x n k) (within (at0 x.links k) (k + 1)).toNat (k + 1) (1 + within (at0 x.weights k) 15)
theorem tree_good (x : Net) (n k : Nat) (hk : k + 1 ≤ n) : Good n (treeRows x n k) := by
  induction k with
  | zero => exact good_none n
  | succ k ih =>
    have h1 := within_bd (v := at0 x.links k) (m := (k : Int) + 1) (by omega)
    have h2 := within_bd (v := at0 x.weights k) (m := 15) (by omega)
    exact good_link (ih (by omega)) _ (by omega) (by omega) (by omega)
/-- What a function that makes a graph leaves: the graph's rows are the call's own. -/
def Made (B : Nat) (ids : List Int) (rows : List (List Link)) (w w' : World) (e : Ending) : Prop :=
  ∃ A c P vs, e = .returned (.agg #[.slice A ids.length c, .slice (some ⟨P, 0, none⟩) rows.length rows.length]) ∧ ids.length ≤ c ∧ w'.ownsRow B 3 1 (.slice A ids.length c) ids.length (icells ids) ∧ PortsAt w' B P vs rows ∧ Below w.heap.size w w'
theorem own_base {w : World} {base B : Nat} {e : TypeId} {size n : Nat} {v : Value} {xs : List Value} (h : w.ownsRow base e size v n xs) (hb : B ≤ base) : w.ownsRow B e size v n xs := by
  rcases h with ⟨h1, h2 | ⟨g, cap, cur, h3, h4, h5⟩⟩
  · exact ⟨h1, .inl h2⟩
  · exact ⟨h1, .inr ⟨g, cap, cur, h3, by omega, h5⟩⟩
theorem PortsAt.base {w : World} {base B P : Nat} {vs : List Value} {rows : List (List Link)} (h : PortsAt w base P vs rows) (hb : B ≤ base) : PortsAt w B P vs rows :=
  ⟨h.blk, ⟨h.rows.len, fun u v ps h1 h2 => own_base (h.rows.own u v ps h1 h2) hb, h.rows.apart, h.rows.nil⟩, by have := h.hP; omega⟩
theorem own_spared {w w1 : World} {base : Nat} {n : Nat} {v : Value} {xs : List Value} (h : w.ownsRow base 3 1 v n xs) (hs : Spared w w1) : w1.ownsRow base 3 1 v n xs := by
  rcases h with ⟨h1, h2 | ⟨g, cap, cur, h3, h4, h5, h6⟩⟩
  · exact ⟨h1, .inl h2⟩
  · exact ⟨h1, .inr ⟨g, cap, cur, h3, h4, hs g cur _ h5 (by decide) (by decide), h6⟩⟩
/-- A store into a block of another kind. -/
theorem PortsAt.setNil {w : World} {base P : Nat} {vs : List Value} {rows : List (List Link)} {p : Addr} {u : Value} {cs : Array Value} {T : TypeId} (h : PortsAt w base P vs rows) (hb : w.heap[p.block]? = some (.cells cs T (0, 0))) (h1 : T ≠ 60) (h2 : T ≠ 52) : PortsAt (w.setCell p u) base P vs rows := by
  refine ⟨blk_far h.blk fun e => ?_, h.rows.keep (grown_set w p u) fun v hv => .inr fun e => ?_, h.hP⟩
  · rw [← e, h.blk] at hb
    injection hb with hb
    injection hb with _ hb
    exact h2 hb.symm
  · obtain ⟨k, hk, rfl⟩ := List.mem_iff_getElem.1 hv
    obtain ⟨_, cells, hc⟩ := own_typed (h.rows.own k _ _ (List.getElem?_eq_getElem hk) (List.getElem?_eq_getElem (by rw [← h.rows.len]; exact hk))) p.block e
    rw [hb] at hc
    injection hc with hc
    injection hc with _ hc
    exact h1 hc
/-- What holds at the head of Tree's loop. -/
structure TreeAt (w wr : World) (cX : Array Value) (G B P n : Nat) (vI : Value) (ids : List Int) (rows : List (List Link)) : Prop where
  bX : wr.heap[w.heap.size]? = some (.cells cX 24 (0, 0))
  bR : wr.heap[w.heap.size + 1]? = some (.cells #[nilRow, nilRow] 27 (0, 0))
  bG : wr.heap[G]? = some (.cells #[vI, .slice (some ⟨P, 0, none⟩) n n] 27 (0, 0))
  len : rows.length = n
  own : wr.ownsRow B 3 1 vI n (icells ids)
  pa : ∃ vs, PortsAt wr B P vs rows
  bel : Below w.heap.size w wr
theorem TreeAt.step {w wr w5 : World} {cX : Array Value} {G B P n : Nat} {vI : Value} {ids : List Int} {rows rows' : List (List Link)} {vs' : List Value} (h : TreeAt w wr cX G B P n vI ids rows) (hB : w.heap.size ≤ B) (hl : rows'.length = n)
    (hpa : PortsAt w5 B P vs' rows') (hb : Below B wr.drew w5) (hs : Spared wr.drew w5) : TreeAt w w5 cX G B P n vI ids rows' :=
  ⟨hs _ _ _ h.bX (by decide) (by decide), hs _ _ _ h.bR (by decide) (by decide), hs _ _ _ h.bG (by decide) (by decide), hl, own_spared (w := wr.drew) h.own hs, ⟨vs', hpa⟩, h.bel.trans ⟨hb.os, hb.tape, hb.output, hb.size, fun k hk => hb.block k (by omega)⟩⟩
theorem link_n (w : World) (N : Int) (vL vW vI : Value) (ap back : Bool) (v0 : Value) (base P : Nat) (n : Nat) (vs : List Value) (rows : List (List Link)) (hp : PortsAt w base P vs rows) (hl : rows.length = n) (hbase : base ≤ w.heap.size)
    (hn : n ≤ 24) (hg : Good n rows) (ka kb : Nat) (ha : ka < n) (hb : kb < n) (wt : Int) :
    Calls Try.prog 115 #[.agg #[.int .i64 N, vL, vW, vI, .bool ap, .bool back], .agg #[v0, .slice (some ⟨P, 0, none⟩) n n], .int .i64 ka, .int .i64 kb, .int .i64 wt] w
      fun e w' => LinkPost base P (linkRows back rows ka kb wt) w w' e := by
  subst hl
  exact link_calls w N vL vW vI ap back v0 base P vs rows hp hbase hn (fun r hr => by have := good_row hg hr; omega) ka kb ha hb wt
set_option maxHeartbeats 4000000 in
set_option maxRecDepth 100000 in
theorem tree_calls (w : World) (x : Net) (AL AW AI : Option Addr) (cL cW cI : Nat) (hx : x.In w AL AW AI) (most : Int) (hm1 : 1 ≤ most) (hm2 : most ≤ 24) :
    Calls Try.prog 77 #[.agg #[.int .i64 x.N, .slice AL x.links.length cL, .slice AW x.weights.length cW, .slice AI x.ids.length cI, .bool x.ap, .bool x.back], .int .i64 most] w
      (fun e w' => Made w.heap.size (nodeIds x.ids (nodeCount x.N most)) (treeRows x (nodeCount x.N most) (nodeCount x.N most - 1)) w w' e) := by
  obtain ⟨hn1, hn2, hn3⟩ := nodeCount_bd (N := x.N) hm1
  have HX := Lib.hid hx
  clear hn3
  go_enter Try.func77, Try.ntmps77
  go_wp2_with fail
  have hb0 := ((Below.refl w.heap.size w).alloc (Nat.le_refl _) (.cells #[.int .i64 x.N, .slice AL x.links.length cL, .slice AW x.weights.length cW, .slice AI x.ids.length cI, .bool x.ap, .bool x.back] 24)).alloc (by simp) (.cells #[nilRow, nilRow] 27)
  refine (nodes_calls _ _ _ _ _ _ _ (Kd.C_below hx.hI hb0) _ _ _ hm1 (by omega)).mono ?_
  rintro e w1 ⟨vI, P, rfl, hown, hpa, hb1⟩
  have hzq := hb1.size
  simp only [World.size_alloc] at hzq hown hpa
  have hl := nodeIds_length x.ids (nodeCount x.N most)
  obtain ⟨A1, c1, hvI, hl1, _⟩ := ints_reads (xs := nodeIds x.ids (nodeCount x.N most)) (by rw [hl]; exact hown)
  rw [hl] at hl1 hvI
  subst hvI
  have hT0 : TreeAt w (w1.alloc (.cells #[.slice A1 (nodeCount x.N most) c1, .slice (some ⟨P, 0, none⟩) (nodeCount x.N most) (nodeCount x.N most)] 27)) #[.int .i64 x.N, .slice AL x.links.length cL, .slice AW x.weights.length cW, .slice AI x.ids.length cI, .bool x.ap, .bool x.back]
      w1.heap.size (w.heap.size + 1 + 1) P (nodeCount x.N most) (.slice A1 (nodeCount x.N most) c1) (nodeIds x.ids (nodeCount x.N most)) (treeRows x (nodeCount x.N most) 0) := by
    refine ⟨?_, ?_, blk_new rfl, by simp [treeRows], hown.alloc _, ⟨_, hpa.alloc _⟩, ?_⟩
    · exact blk_alloc (blk_below (blk_alloc (blk_new rfl) _) hb1) _
    · exact blk_alloc (blk_below (blk_new (by simp)) hb1) _
    · exact (hb0.trans (hb1.mono (by simp; omega))).alloc (by omega) _
  have HT0 := Lib.hid hT0
  have HGX : Hid (w.heap.size + 1 < w1.heap.size) := by unfold Hid; omega
  clear hb0 hown hpa hb1 hT0 hzq hx hl
  generalize hnn : nodeCount x.N most = n at hn1 hn2 hl1 HT0
  have HNN := Lib.hid hnn
  clear hnn
  go_wp2_with fail
  generalize w1.heap.size = G at HT0 HGX ⊢
  go_loopw [6] (fun i wr => ∃ (k : Nat), k + 1 ≤ n ∧ i = .int .i64 (k + 1 : Nat) ∧ TreeAt w wr #[.int .i64 x.N, .slice AL x.links.length cL, .slice AW x.weights.length cW, .slice AI x.ids.length cI, .bool x.ap, .bool x.back] G (w.heap.size + 1 + 1) P n (.slice A1 n c1) (nodeIds x.ids n) (treeRows x n k)) (fun i _ => n - (intOf i).toNat)
  case atStart => exact ⟨0, hn1, rfl, HT0.out⟩
  case round =>
    obtain ⟨k, hk, rfl, hT⟩ := hrel
    have HT := Lib.hid hT
    clear hT HT0
    have cG0 := blk_cell (j := 0) (v := .slice A1 n c1) HT.out.bG rfl
    have cG1 := blk_cell (j := 1) (v := .slice (some ⟨P, 0, none⟩) n n) HT.out.bG rfl
    by_cases hk2 : k + 1 < n
    · have cX0 := blk_cell (j := 0) (v := .int .i64 x.N) HT.out.bX rfl
      have cX1 := blk_cell (j := 1) (v := .slice AL x.links.length cL) HT.out.bX rfl
      have cX2 := blk_cell (j := 2) (v := .slice AW x.weights.length cW) HT.out.bX rfl
      have cX3 := blk_cell (j := 3) (v := .slice AI x.ids.length cI) HT.out.bX rfl
      have cX4 := blk_cell (j := 4) (v := .bool x.ap) HT.out.bX rfl
      have cX5 := blk_cell (j := 5) (v := .bool x.back) HT.out.bX rfl
      have HXw := Lib.hid (HX.out.below HT.out.bel)
      have h1 := within_bd (v := at0 x.links k) (m := (k : Int) + 1) (by omega)
      have h2 := within_bd (v := at0 x.weights k) (m := 15) (by omega)
      obtain ⟨la, hla⟩ : ∃ la, at0 x.links (k : Int) = la := ⟨_, rfl⟩
      obtain ⟨lb, hlb⟩ : ∃ lb, at0 x.weights (k : Int) = lb := ⟨_, rfl⟩
      have HLA := Lib.hid hla
      have HLB := Lib.hid hlb
      rw [hla] at h1
      rw [hlb] at h2
      clear hla hlb
      obtain ⟨ka, hka⟩ : ∃ ka : Nat, within la ((k : Int) + 1) = ka := ⟨_, (Int.toNat_of_nonneg h1.1).symm⟩
      have HKA := Lib.hid hka
      have hka2 : ka < k + 1 := by omega
      obtain ⟨wt, hwt⟩ : ∃ wt : Int, within lb 15 = wt := ⟨_, rfl⟩
      have HWT := Lib.hid hwt
      rw [hwt] at h2
      obtain ⟨vs, hpa⟩ := HT.out.pa
      have HPA := Lib.hid hpa
      have HXd : Hid (x.In wr.drew AL AW AI) := ⟨Kd.C_keep HXw.out.hL fun _ _ => rfl, Kd.C_keep HXw.out.hW fun _ _ => rfl, Kd.C_keep HXw.out.hI fun _ _ => rfl⟩
      have HPD : Hid (PortsAt wr.drew (w.heap.size + 1 + 1) P vs (treeRows x n k)) := ⟨HPA.out.blk, HPA.out.rows.drew, HPA.out.hP⟩
      have HG := Lib.hid (tree_good x n k (by omega))
      have HG2 := Lib.hid (tree_good x n (k + 1) (by omega))
      have HE : Hid (linkRows x.back (treeRows x n k) ka (k + 1) (1 + wt) = treeRows x n (k + 1)) := by
        unfold Hid
        rw [treeRows, HLA.out, HLB.out, HKA.out, HWT.out, Int.toNat_natCast]
      have HLS : Hid (w.heap.size + 1 + 1 ≤ wr.drew.heap.size) := by
        have := HPA.out.hP; have := blk_lt HPA.out.blk
        unfold Hid; simp; omega
      have hn24 : n ≤ 24 := by omega
      clear hka hwt h1 hpa
      go_wp2_with fail
      have hk0 : (0 : Int) ≤ (k : Int) := by omega
      have hk3 : (k : Int) + 1 ≤ 100000 := by omega
      have q1 : IntKind.i64.wrap (k : Int) = k := IntWalk.i64_in _ (by omega)
      have q2 : IntKind.i64.wrap (1 + wt) = 1 + wt := IntWalk.i64_in _ (by omega)
      have hka3 : ka < n := by omega
      go_region_held3 (fun w' => w'.cell? ⟨w.heap.size, 0, none⟩ = some (.int .i64 x.N) ∧ w'.cell? ⟨w.heap.size, 1, none⟩ = some (.slice AL x.links.length cL) ∧ w'.cell? ⟨w.heap.size, 2, none⟩ = some (.slice AW x.weights.length cW) ∧
          w'.cell? ⟨w.heap.size, 3, none⟩ = some (.slice AI x.ids.length cI) ∧ w'.cell? ⟨w.heap.size, 4, none⟩ = some (.bool x.ap) ∧ w'.cell? ⟨w.heap.size, 5, none⟩ = some (.bool x.back) ∧
          w'.cell? ⟨G, 0, none⟩ = some (.slice A1 n c1) ∧ w'.cell? ⟨G, 1, none⟩ = some (.slice (some ⟨P, 0, none⟩) n n))
        (first | exact ⟨cX0, cX1, cX2, cX3, cX4, cX5, cG0, cG1⟩ | exact ⟨d0, d1, d2, d3, d4, d5, g0, g1⟩)
        (first
          | (go_at_call 71; refine (at_calls _ _ _ _ ?_ _ hk0).mono ?_; (first | exact HXd.out.hL | exact HXd.out.hW); rintro e w3 ⟨rfl, rfl⟩; (first | rw [HLA.out] | rw [HLB.out]))
          | (go_at_call 70; refine (within_calls _ _ _ ?_).mono ?_; (first | decide | exact hk3); rintro e w3 ⟨rfl, rfl⟩; (first | rw [HKA.out] | rw [HWT.out]))
          | (go_at_call 115
             refine (link_n _ _ _ _ _ _ _ _ _ _ n _ _ HPD.out HG.out.len HLS.out hn24 HG.out ka (k + 1) hka3 hk2 _).mono ?_
             rintro e w5 ⟨rfl, ⟨vs5, hpa5⟩, hb5, hs5⟩
             rw [HE.out] at hpa5
             have HT5 := Lib.hid (HT.out.step (Nat.le_add_right _ 2) HG2.out.len hpa5 hb5 hs5)
             have d0 := blk_cell (j := 0) (v := .int .i64 x.N) HT5.out.bX rfl
             have d1 := blk_cell (j := 1) (v := .slice AL x.links.length cL) HT5.out.bX rfl
             have d2 := blk_cell (j := 2) (v := .slice AW x.weights.length cW) HT5.out.bX rfl
             have d3 := blk_cell (j := 3) (v := .slice AI x.ids.length cI) HT5.out.bX rfl
             have d4 := blk_cell (j := 4) (v := .bool x.ap) HT5.out.bX rfl
             have d5 := blk_cell (j := 5) (v := .bool x.back) HT5.out.bX rfl
             have g0 := blk_cell (j := 0) (v := .slice A1 n c1) HT5.out.bG rfl
             have g1 := blk_cell (j := 1) (v := .slice (some ⟨P, 0, none⟩) n n) HT5.out.bG rfl
             clear hpa5 hb5 hs5))
      clear q1 q2 d0 d1 d2 d3 d4 d5 g0 g1
      go_wp2_with fail
      go_roundw
      case rel => exact ⟨k + 1, by omega, by go_num, HT5.out⟩
      case measure => simp [intOf]; omega
    · have cR0 := blk_cell (j := 0) (v := nilRow) HT.out.bR rfl
      have cR1 := blk_cell (j := 1) (v := nilRow) HT.out.bR rfl
      have fR0 := blk_free 0 HT.out.bR
      have fR1 := blk_free 1 HT.out.bR
      have HKN : Hid (k = n - 1) := by unfold Hid; omega
      go_wp2_with fail
      refine bodyPost_ret (v := .agg #[.slice A1 n c1, .slice (some ⟨P, 0, none⟩) n n]) (by simp [results, Try.results77, go_sem, cR0, cR1]) rfl ?_
      rw [HNN.out, ← HKN.out]
      have hl : (nodeIds x.ids n).length = n := nodeIds_length x.ids n
      have hb1 := blk_set 0 (.slice A1 n c1) HT.out.bR (by simp)
      have ho1 := own_keep HT.out.own (grown_set wr ⟨w.heap.size + 1, 0, none⟩ (.slice A1 n c1)) (fun k hk => by cases hk; exact own_ne HT.out.own HT.out.bR (by decide))
      have ho2 := own_keep ho1 (grown_set _ ⟨w.heap.size + 1, 1, none⟩ (.slice (some ⟨P, 0, none⟩) n n)) (fun k hk => by cases hk; exact own_ne ho1 hb1 (by decide))
      obtain ⟨vs, hpa⟩ := HT.out.pa
      have hp1 := hpa.setNil (p := ⟨w.heap.size + 1, 0, none⟩) (u := .slice A1 n c1) HT.out.bR (by decide) (by decide)
      have hp2 := hp1.setNil (p := ⟨w.heap.size + 1, 1, none⟩) (u := .slice (some ⟨P, 0, none⟩) n n) hb1 (by decide) (by decide)
      exact ⟨A1, c1, P, vs, by rw [hl, HT.out.len], by rw [hl]; exact hl1, by rw [hl]; exact own_base ho2 (by omega), hp2.base (by omega), (HT.out.bel.setCell (by simp) _).setCell (by simp) _⟩
end Go.Proofs.Ythapikakneikbaa
/-
  selfstabworld.Net.more, Connected, Any.
-/
namespace Go.Proofs.Ythapikakneikbaa
open Go.RowKit
def moreFrom (x : Net) (n : Nat) : Nat → Nat → List (List Link) → List (List Link)
  | 0, _, rows => rows
  | f + 1, i, rows =>
    if i + 1 < x.links.length ∧ i < 60 then
      moreFrom x n f (i + 2) (linkRows x.back rows (within (at0 x.links i) n).toNat (within (at0 x.links (i + 1 : Nat)) n).toNat (1 + within (at0 x.weights i) 15))
    else rows
def moreRows (x : Net) (n : Nat) (rows : List (List Link)) : List (List Link) := moreFrom x n 61 n rows
theorem more_good (x : Net) (n : Nat) (hn : 1 ≤ n) (f i : Nat) {rows : List (List Link)} (h : Good n rows) : Good n (moreFrom x n f i rows) := by
  induction f generalizing i rows with
  | zero => exact h
  | succ f ih =>
    unfold moreFrom
    split
    · have h1 := within_bd (v := at0 x.links i) (m := (n : Int)) (by omega)
      have h2 := within_bd (v := at0 x.links (i + 1 : Nat)) (m := (n : Int)) (by omega)
      have h3 := within_bd (v := at0 x.weights i) (m := 15) (by omega)
      exact ih _ (good_link h _ (by omega) (by omega) (by omega))
    · exact h
/-- What holds at the head of the loop of more. -/
structure MoreAt (w wr : World) (cX cG : Array Value) (B P n : Nat) (rows : List (List Link)) : Prop where
  bX : wr.heap[w.heap.size]? = some (.cells cX 24 (0, 0))
  bG : wr.heap[w.heap.size + 1]? = some (.cells cG 27 (0, 0))
  bR : wr.heap[w.heap.size + 2]? = some (.cells #[nilRow, nilRow] 27 (0, 0))
  len : rows.length = n
  pa : ∃ vs, PortsAt wr B P vs rows
  bel : Below B w wr
  sp : Spared w wr
theorem MoreAt.step {w wr w5 : World} {cX cG : Array Value} {B P n : Nat} {rows rows' : List (List Link)} {vs' : List Value} (h : MoreAt w wr cX cG B P n rows) (hl : rows'.length = n)
    (hpa : PortsAt w5 B P vs' rows') (hb : Below B wr.drew w5) (hs : Spared wr.drew w5) : MoreAt w w5 cX cG B P n rows' :=
  ⟨hs _ _ _ h.bX (by decide) (by decide), hs _ _ _ h.bG (by decide) (by decide), hs _ _ _ h.bR (by decide) (by decide), hl, ⟨vs', hpa⟩, h.bel.trans ⟨hb.os, hb.tape, hb.output, hb.size, hb.block⟩, h.sp.drew.trans hs⟩
end Go.Proofs.Ythapikakneikbaa
/-
  selfstabworld.Net.Connected, Any.
-/
namespace Go.Proofs.Ythapikakneikbaa
open Go.RowKit
def Net.n (x : Net) (most : Int) : Nat := nodeCount x.N most
def Net.treeG (x : Net) (most : Int) : Graph := ⟨nodeIds x.ids (x.n most), treeRows x (x.n most) (x.n most - 1)⟩
def Net.connG (x : Net) (most : Int) : Graph := ⟨nodeIds x.ids (x.n most), moreRows x (x.n most) (treeRows x (x.n most) (x.n most - 1))⟩
section
variable (x : Net) {most : Int}
theorem Net.n_bd (hm : 1 ≤ most) : 1 ≤ x.n most ∧ (x.n most : Int) ≤ most := ⟨(nodeCount_bd hm).1, (nodeCount_bd hm).2.1⟩
theorem Net.tree_g (hm : 1 ≤ most) : Good (x.n most) (x.treeG most).ports := tree_good x _ _ (by have := x.n_bd hm; omega)
theorem Net.conn_g (hm : 1 ≤ most) : Good (x.n most) (x.connG most).ports := more_good x _ (x.n_bd hm).1 _ _ (x.tree_g hm)
theorem Net.conn_valid (hm : 1 ≤ most) (h2 : most ≤ 24) : (x.connG most).valid = true := by
  have h := x.n_bd hm
  have h3 := nodeIds_ok x.ids (x.n most) (by omega)
  exact good_valid (x.conn_g hm) h.1 (by omega) (nodeIds_length _ _) h3.1 h3.2
end
theorem below_drew {B : Nat} {w W : World} (h : Below B w W) : Below B w W.drew := ⟨h.os, h.tape, h.output, h.size, h.block⟩
theorem Net.In.drew {x : Net} {w : World} {AL AW AI : Option Addr} (h : x.In w AL AW AI) : x.In w.drew AL AW AI := ⟨Kd.C_keep h.hL fun _ _ => rfl, Kd.C_keep h.hW fun _ _ => rfl, Kd.C_keep h.hI fun _ _ => rfl⟩
theorem Net.In.alloc {x : Net} {w : World} {AL AW AI : Option Addr} (h : x.In w AL AW AI) (o : Obj) : x.In (w.alloc o) AL AW AI := h.below ((Below.refl _ _).alloc (Nat.le_refl _) o)
/-- What a function that makes a graph of n nodes leaves: the graph's rows are the call's own. -/
def MadeN (B n : Nat) (g : Graph) (w w' : World) (e : Ending) : Prop :=
  ∃ A c P vs, e = .returned (.agg #[.slice A n c, .slice (some ⟨P, 0, none⟩) n n]) ∧ (n ≤ c ∧ g.ids.length = n ∧ g.ports.length = n) ∧ w'.ownsRow B 3 1 (.slice A n c) n (icells g.ids) ∧ PortsAt w' B P vs g.ports ∧ Below w.heap.size w w'
theorem tree_n (w : World) (x : Net) (AL AW AI : Option Addr) (cL cW cI : Nat) (hx : x.In w AL AW AI) (most : Int) (hm1 : 1 ≤ most) (hm2 : most ≤ 24) :
    Calls Try.prog 77 #[.agg #[.int .i64 x.N, .slice AL x.links.length cL, .slice AW x.weights.length cW, .slice AI x.ids.length cI, .bool x.ap, .bool x.back], .int .i64 most] w
      (fun e w' => MadeN w.heap.size (x.n most) (x.treeG most) w w' e) := by
  refine (tree_calls w x AL AW AI cL cW cI hx most hm1 hm2).mono ?_
  rintro e w' ⟨A, c, P, vs, rfl, hc, ho, hp, hb⟩
  have h1 : (nodeIds x.ids (nodeCount x.N most)).length = x.n most := nodeIds_length _ _
  have h2 : (treeRows x (nodeCount x.N most) (nodeCount x.N most - 1)).length = x.n most := (x.tree_g hm1).len
  rw [h1] at hc ho
  exact ⟨A, c, P, vs, by rw [h1, h2], ⟨hc, h1, h2⟩, ho, hp, hb⟩
end Go.Proofs.Ythapikakneikbaa
/-
  selfstabworld.Config: a configuration of variables, made of numbers.
-/
namespace Go.Proofs.Ythapikakneikbaa
open Go.RowKit
structure Var where
  name : ByteArray
  kind : Int
  lo : Int
  hi : Int
  pn : Int
  pid : Int
def kVar : Kd Var where
  sz := 6
  K := fun _ x cs => cs = [.string x.name, .int .i64 x.kind, .int .i64 x.lo, .int .i64 x.hi, .int .i64 x.pn, .int .i64 x.pid]
  len := fun h => by rw [h]; rfl
  one := fun h u hu => by
    rw [h] at hu
    simp only [List.mem_cons, List.not_mem_nil, or_false] at hu
    rcases hu with rfl | rfl | rfl | rfl | rfl | rfl <;> rfl
  keep := fun _ h => h
theorem at_var {w : World} {A : Option Addr} {xs : List Var} (h : kVar.C w A xs) (j : Nat) (hj : j < xs.length) : ∃ ad, A = some ad ∧ w.cell? ⟨(ad.add (j * 6)).block, (ad.add (j * 6)).off + 1, none⟩ = some (.int .i64 xs[j].kind) ∧
    w.cell? ⟨(ad.add (j * 6)).block, (ad.add (j * 6)).off + 2, none⟩ = some (.int .i64 xs[j].lo) ∧ w.cell? ⟨(ad.add (j * 6)).block, (ad.add (j * 6)).off + 3, none⟩ = some (.int .i64 xs[j].hi) ∧
    w.cell? ⟨(ad.add (j * 6)).block, (ad.add (j * 6)).off + 4, none⟩ = some (.int .i64 xs[j].pn) ∧ w.cell? ⟨(ad.add (j * 6)).block, (ad.add (j * 6)).off + 5, none⟩ = some (.int .i64 xs[j].pid) := by
  obtain ⟨ad, c, e, hK, hc⟩ := Kd.C_at h j hj
  obtain rfl := hK
  refine ⟨ad, e, ?_, ?_, ?_, ?_, ?_⟩
  · rw [← add_field _ _ 1 (by omega)]; exact hc 1 _ rfl
  · rw [← add_field _ _ 2 (by omega)]; exact hc 2 _ rfl
  · rw [← add_field _ _ 3 (by omega)]; exact hc 3 _ rfl
  · rw [← add_field _ _ 4 (by omega)]; exact hc 4 _ rfl
  · rw [← add_field _ _ 5 (by omega)]; exact hc 5 _ rfl
def topOf (ids : List Int) : Int := ids.foldl max 0
def Var.lo' (v : Var) : Int := if v.kind = 2 then 0 else if v.kind = 3 then -1 else v.lo
def Var.hi' (v : Var) (n : Nat) (top : Int) (deg : Nat) : Int := if v.kind = 2 then 1 else if v.kind = 3 then (deg : Int) - 1 else v.hi + v.pn * n + v.pid * top
/-- Numbers so small that nothing wraps. -/
structure Var.Small (v : Var) : Prop where
  lo : -1000 ≤ v.lo ∧ v.lo ≤ 1000
  hi : -1000 ≤ v.hi ∧ v.hi ≤ 1000
  pn : 0 ≤ v.pn ∧ v.pn ≤ 100
  pid : 0 ≤ v.pid ∧ v.pid ≤ 100
theorem topOf_bd {ids : List Int} (h : ∀ x ∈ ids, 0 ≤ x ∧ x ≤ 255) : 0 ≤ topOf ids ∧ topOf ids ≤ 255 := by
  suffices H : ∀ (l : List Int) (a : Int), (∀ x ∈ l, 0 ≤ x ∧ x ≤ 255) → 0 ≤ a ∧ a ≤ 255 → 0 ≤ l.foldl max a ∧ l.foldl max a ≤ 255 from H ids 0 h (by omega)
  intro l
  induction l with
  | nil => intro a _ h; exact h
  | cons x r ih =>
    intro a h1 h2
    have hx := h1 x (by simp)
    exact ih (max a x) (fun y hy => h1 y (by simp [hy])) (by omega)
theorem topOf_take {ids : List Int} {k : Nat} (hk : k < ids.length) : topOf (ids.take (k + 1)) = max (topOf (ids.take k)) ids[k] := by
  unfold topOf
  rw [List.take_succ_eq_append_getElem hk, List.foldl_append]
  rfl
/-- The rows that have been made lie in blocks of the call's own. -/
structure ConfAt (w wr : World) (cG : Array Value) (B : Nat) (vO : Value) (k : Nat) (xs : List Value) (c : Conf) : Prop where
  bG : wr.heap[w.heap.size]? = some (.cells cG 27 (0, 0))
  own : wr.ownsRow B 22 1 vO k xs
  rows : ∀ (j : Nat) v r, xs[j]? = some v → c[j]? = some r → wr.ownsRow B 3 1 v r.length (icells r)
  len : c.length = k
  bel : Below w.heap.size w wr
theorem own_below {w w1 : World} {base : Nat} {e : TypeId} {size n : Nat} {v : Value} {xs : List Value} (h : w.ownsRow base e size v n xs) (hb : Below w.heap.size w w1) : w1.ownsRow base e size v n xs := by
  rcases h with ⟨h1, h2 | ⟨g, cap, cur, h3, h4, h5, h6⟩⟩
  · exact ⟨h1, .inl h2⟩
  · exact ⟨h1, .inr ⟨g, cap, cur, h3, h4, blk_below h5 hb, h6⟩⟩
theorem ConfAt.step {w wv wq w5 : World} {cG : Array Value} {B m : Nat} {vO v2 vL : Value} {k : Nat} {xs : List Value} {c : Conf} {r : List Int} {o : Obj} (h : ConfAt w wv cG B vO k xs c) (hb : Below wv.heap.size wv wq) (hr : r.length = m)
    (hl : wq.ownsRow wv.heap.size 3 1 vL m (icells r)) (ho : w5.ownsRow B 22 1 v2 (k + 1) (xs ++ [vL])) (hg : (wq.alloc o).grownBy w5 vO.ownBlock) (hB : B ≤ wv.heap.size) (hw : w.heap.size ≤ B) : ConfAt w w5 cG B v2 (k + 1) (xs ++ [vL]) (c ++ [r]) := by
  have hoq := (own_below h.own hb).alloc o
  have keep : ∀ {v : Value} {n : Nat} {ys : List Value}, wq.ownsRow B 3 1 v n ys → w5.ownsRow B 3 1 v n ys := fun hv => own_keep (hv.alloc o) hg fun b hb2 => by
    obtain ⟨_, cells, hc⟩ := own_typed0 hoq b hb2
    exact own_ne (hv.alloc o) hc (by decide)
  have hxl : xs.length = k := by have := h.own.1; omega
  refine ⟨blk_keep (blk_alloc (blk_below h.bG hb) o) hg (own_ne hoq (blk_alloc (blk_below h.bG hb) o) (by decide)), ho, fun j v r' h1 h2 => ?_, by simp [h.len], ?_⟩
  · by_cases hj : j < k
    · rw [List.getElem?_append_left (by omega)] at h1
      rw [List.getElem?_append_left (by rw [h.len]; omega)] at h2
      exact keep (own_below (h.rows j v r' h1 h2) hb)
    · rw [List.getElem?_append_right (by omega)] at h1
      rw [List.getElem?_append_right (by rw [h.len]; omega)] at h2
      rw [hxl] at h1
      rw [h.len] at h2
      obtain ⟨e1, rfl⟩ : j - k = 0 ∧ vL = v := by
        cases hjk : j - k with
        | zero => rw [hjk] at h1; simpa using h1
        | succ n => rw [hjk] at h1; simp at h1
      rw [e1] at h2
      obtain rfl : r = r' := by simpa using h2
      rw [hr]
      exact keep (own_base hl hB)
  · have hs := hb.size
    have hs2 := h.bel.size
    exact ((h.bel.trans (hb.mono hs2)).alloc (by omega) o).grown hg (by simp; omega) fun b hb2 => by have := (own_typed0 hoq b hb2).1; omega
end Go.Proofs.Ythapikakneikbaa
/-
  selfstabref23.top, Config; selfstabref31.Ones.
-/
namespace Go.Proofs.Ythapikakneikbaa
open Go.RowKit
abbrev noVar : Var := ⟨default, 0, 0, 0, 0, 0⟩
theorem top_calls (w : World) (A0 : Option Addr) (c0 : Nat) (vP : Value) (ids : List Int) (hi : (Kd.int .i64).C w A0 ids) :
    Calls Try.prog 120 #[.agg #[.slice A0 ids.length c0, vP]] w fun e w' => e = .returned (.int .i64 (topOf ids)) ∧ Below w.heap.size w w' := by
  have hb0 := (Below.refl w.heap.size w).alloc (Nat.le_refl _) (.cells #[.slice A0 ids.length c0, vP] 27)
  have bG : (w.alloc (.cells #[.slice A0 ids.length c0, vP] 27)).heap[w.heap.size]? = some (.cells #[.slice A0 ids.length c0, vP] 27 (0, 0)) := blk_new rfl
  have hi1 := Kd.C_below hi hb0
  have him := Kd.C_max hi
  go_enter Try.func120, Try.ntmps120
  go_wp2_with fail
  generalize w.alloc _ = w1 at hb0 bG hi1 ⊢
  have HB0 := Lib.hid hb0
  have HI1 := Lib.hid hi1
  have cG0 := blk_cell (j := 0) (v := .slice A0 ids.length c0) bG rfl
  clear hb0 hi1 bG hi
  go_loop [3, 4] (fun a i => ∃ v : Nat, v ≤ ids.length ∧ i = .int .i64 v ∧ a = .int .i64 (topOf (ids.take v))) (fun _ i => ids.length - (intOf i).toNat)
  case atStart => exact ⟨0, Nat.zero_le _, rfl, rfl⟩
  case round =>
    obtain ⟨v, hv, rfl, rfl⟩ := hrel
    by_cases hlt : v < ids.length
    · obtain ⟨ad, rfl, hc⟩ := Kd.at_int HI1.out v hlt
      have HT := Lib.hid (topOf_take (ids := ids) (k := v) hlt)
      generalize ids[v] = y at hc HT
      generalize topOf (ids.take v) = t at HT
      go_wp2_with fail
      go_round
      case rel => exact ⟨v + 1, by omega, by go_num, by rw [HT.out]; congr 1; omega⟩
      case measure => simp [intOf]; omega
    · have HE : Hid (topOf (ids.take v) = topOf ids) := by unfold Hid; rw [List.take_of_length_le (by omega)]
      go_wp2_with fail
      go_ret
      exact ⟨by rw [← HE.out]; rfl, HB0.out⟩
def cellOK (g : Graph) (c : Conf) (vars : List Var) (v i : Nat) : Bool :=
  inB ((c.getD v []).getD i 0) (vars.getD i noVar).lo' ((vars.getD i noVar).hi' g.ports.length (topOf g.ids) (g.ports.getD v []).length)
def crowOK (g : Graph) (c : Conf) (vars : List Var) (v : Nat) : Bool := decide ((c.getD v []).length = vars.length) && (List.range vars.length).all fun i => cellOK g c vars v i
/-- c is a configuration of the variables on a valid graph. -/
def confB (g : Graph) (c : Conf) (vars : List Var) : Bool := g.valid && decide (c.length = g.ports.length) && (List.range g.ports.length).all fun v => crowOK g c vars v
theorem conf_bad {g : Graph} {c : Conf} {vars : List Var} (h : g.valid = false ∨ c.length ≠ g.ports.length ∨ ∃ v, v < g.ports.length ∧ crowOK g c vars v = false) : confB g c vars = false := not_true fun hb => by
  simp only [confB, Bool.and_eq_true, decide_eq_true_eq, List.all_eq_true, List.mem_range] at hb
  rcases h with h | h | ⟨v, hv, h⟩
  · rw [hb.1.1] at h; cases h
  · exact h hb.1.2
  · rw [hb.2 v hv] at h; cases h
theorem conf_good {g : Graph} {c : Conf} {vars : List Var} (h1 : g.valid = true) (h2 : c.length = g.ports.length) (h3 : ∀ v, v < g.ports.length → crowOK g c vars v = true) : confB g c vars = true := by
  simp only [confB, Bool.and_eq_true, decide_eq_true_eq, List.all_eq_true, List.mem_range]
  exact ⟨⟨h1, h2⟩, h3⟩
theorem crow_bad {g : Graph} {c : Conf} {vars : List Var} {v : Nat} (h : (c.getD v []).length ≠ vars.length ∨ ∃ i, i < vars.length ∧ cellOK g c vars v i = false) : crowOK g c vars v = false := not_true fun hb => by
  simp only [crowOK, Bool.and_eq_true, decide_eq_true_eq, List.all_eq_true, List.mem_range] at hb
  rcases h with h | ⟨i, hi, h⟩
  · exact h hb.1
  · rw [hb.2 i hi] at h; cases h
theorem crow_good {g : Graph} {c : Conf} {vars : List Var} {v : Nat} (h1 : (c.getD v []).length = vars.length) (h2 : ∀ i, i < vars.length → cellOK g c vars v i = true) : crowOK g c vars v = true := by
  simp only [crowOK, Bool.and_eq_true, decide_eq_true_eq, List.all_eq_true, List.mem_range]
  exact ⟨h1, h2⟩
set_option maxHeartbeats 8000000 in
set_option maxRecDepth 100000 in
theorem refconf_calls (w : World) (A0 : Option Addr) (c0 : Nat) (A1 : Option Addr) (c1 : Nat) (g : Graph) (hg : IsGraph w A0 c0 A1 c1 g) (A2 : Option Addr) (c2 : Nat) (c : Conf) (hc : kConf.C w A2 c) (AV : Option Addr) (cV : Nat) (vars : List Var) (hv : kVar.C w AV vars) (hv1 : vars.length ≤ 100) (hvs : ∀ v ∈ vars, v.Small) :
    Calls Try.prog 83 #[.agg #[.slice A0 g.ids.length c0, .slice A1 g.ports.length c1], .slice A2 c.length c2, .slice AV vars.length cV] w fun e w' => e = .returned (.bool (confB g c vars)) ∧ Below w.heap.size w w' := by
  have hg1 := hg.below ((Below.refl w.heap.size w).alloc (Nat.le_refl _) (.cells #[.slice A0 g.ids.length c0, .slice A1 g.ports.length c1] 27))
  have HG := Lib.hid hg
  have HC := Lib.hid hc
  have HVV := Lib.hid hv
  have HVS := Lib.hid hvs
  have hcm := Kd.C_max hc
  clear hg hc hv hvs
  cases hV : g.valid with
  | false =>
    have HE : Hid (confB g c vars = false) := conf_bad (.inl hV)
    have HV := Lib.hid hV
    clear hV
    go_enter Try.func83, Try.ntmps83
    go_wp2_with fail
    refine (refvalid_calls _ _ _ _ _ _ hg1).mono ?_
    rintro e w1 ⟨rfl, hb1⟩
    rw [HV.out]
    obtain ⟨_, _, _, hbw⟩ := box2 hb1
    have HB := Lib.hid hbw
    clear hb1 hbw
    go_wp2_with fail
    go_ret
    exact ⟨by rw [HE.out]; rfl, HB.out⟩
  | true =>
    have HV := Lib.hid hV
    obtain ⟨hn1, hn2, hn3⟩ := valid_size hV
    have hids := ((valid_iff g).1 hV).2.1
    have HTB : Hid (0 ≤ topOf g.ids ∧ topOf g.ids ≤ 255) := topOf_bd fun x hx => by have := hids x hx; simpa [okID] using this
    have HN3 := Lib.hid hn3
    clear hV hn3 hids
    by_cases hlen : c.length = g.ports.length
    · have t1 : ((c.length : Int) != (g.ports.length : Int)) = false := by rw [hlen]; simp
      have HLEN := Lib.hid hlen
      clear hlen
      go_enter Try.func83, Try.ntmps83
      go_wp2_with fail
      have bG : (w.alloc (.cells #[.slice A0 g.ids.length c0, .slice A1 g.ports.length c1] 27)).heap[w.heap.size]? = some (.cells #[.slice A0 g.ids.length c0, .slice A1 g.ports.length c1] 27 (0, 0)) := blk_new rfl
      have hb0 := (Below.refl w.heap.size w).alloc (Nat.le_refl _) (.cells #[.slice A0 g.ids.length c0, .slice A1 g.ports.length c1] 27)
      refine (refvalid_calls _ _ _ _ _ _ hg1).mono ?_
      rintro e w1 ⟨rfl, hb1⟩
      rw [HV.out]
      have HB1 := Lib.hid (hb0.trans (hb1.mono (by simp)))
      have HBG1 := Lib.hid (blk_below bG hb1)
      clear hb1 hb0 bG hg1
      go_wp2_with fail
      clear t1
      go_loopw [8] (fun j wr => ∃ v : Nat, v ≤ g.ports.length ∧ j = .int .i64 v ∧ (∀ u, u < v → crowOK g c vars u = true) ∧ Below w.heap.size w wr ∧ wr.heap[w.heap.size]? = some (.cells #[.slice A0 g.ids.length c0, .slice A1 g.ports.length c1] 27 (0, 0))) (fun j _ => g.ports.length - (intOf j).toNat)
      case atStart => exact ⟨0, Nat.zero_le _, rfl, fun _ h => absurd h (Nat.not_lt_zero _), HB1.out, HBG1.out⟩
      case round =>
        obtain ⟨wz, rfl⟩ : ∃ wz : World, wz = wr := ⟨_, rfl⟩
        obtain ⟨v, hvn, rfl, hrow, hbz, hgz⟩ := hrel
        have HROW := Lib.hid hrow
        have HBZ := Lib.hid hbz
        have HGZ := Lib.hid hgz
        clear hrow hbz hgz HB1 HBG1
        by_cases hlt : v < g.ports.length
        · have hvc : v < c.length := by have := HLEN.out; omega
          obtain ⟨ad, AR, cR, rfl, hcell, hlr, hCr⟩ := Kd.at_slice (Kd.C_below HC.out HBZ.out) v hvc
          have HRW : Hid (c.getD v [] = c[v]) := by unfold Hid; simp [List.getD_eq_getElem?_getD, hvc]
          generalize c[v] = row at hcell hlr hCr HRW
          have hrm := Kd.C_max hCr
          have HCr := Lib.hid hCr
          clear hCr
          have hvL : (v : Int) < (c.length : Int) := by omega
          by_cases hwid : row.length = vars.length
          · have t2 : ((row.length : Int) != (vars.length : Int)) = false := by rw [hwid]; simp
            have HWID := Lib.hid hwid
            clear hwid
            go_wp2_with fail
            clear t2 hcell
            go_loopw [9] (fun j wr => ∃ i : Nat, i ≤ vars.length ∧ j = .int .i64 i ∧ (∀ u, u < i → cellOK g c vars v u = true) ∧ Below w.heap.size w wr ∧ wr.heap[w.heap.size]? = some (.cells #[.slice A0 g.ids.length c0, .slice A1 g.ports.length c1] 27 (0, 0))) (fun j _ => vars.length - (intOf j).toNat)
            case atStart => exact ⟨0, Nat.zero_le _, rfl, fun _ h => absurd h (Nat.not_lt_zero _), HBZ.out, HGZ.out⟩
            case round =>
              obtain ⟨wq, rfl⟩ : ∃ wq : World, wq = wr := ⟨_, rfl⟩
              obtain ⟨i, hi, rfl, hok, hbq, hgq⟩ := hrel
              have HOK := Lib.hid hok
              have HBQ := Lib.hid hbq
              have HGQ := Lib.hid hgq
              have cG0 := blk_cell (j := 0) (v := .slice A0 g.ids.length c0) hgq rfl
              have cG1 := blk_cell (j := 1) (v := .slice A1 g.ports.length c1) hgq rfl
              clear hok hbq hgq
              by_cases hil : i < vars.length
              · obtain ⟨adv, rfl, ck, cl, ch, cn, cp⟩ := at_var (Kd.C_below HVV.out HBQ.out) i hil
                have hsm := HVS.out vars[i] (List.getElem_mem hil)
                have hir : i < row.length := by have := HWID.out; omega
                have HX : Hid (vars.getD i noVar = vars[i]) := by unfold Hid; simp [List.getD_eq_getElem?_getD, hil]
                have HD : Hid (g.ports.getD v [] = g.ports[v]) := by unfold Hid; simp [List.getD_eq_getElem?_getD, hlt]
                have HZ : Hid (row.getD i 0 = row[i]) := by unfold Hid; simp [List.getD_eq_getElem?_getD, hir]
                have hpr := row_short HV.out hlt
                rw [HD.out] at hpr
                generalize hx : vars[i] = x at ck cl ch cn cp hsm HX
                generalize hpr0 : g.ports[v] = pr at hpr HD
                generalize hz : row[i] = z at HZ
                have HZ2 : Hid (∀ h : i < row.length, row[i] = z) := fun _ => hz
                have HP2 : Hid (∀ h : v < g.ports.length, g.ports[v] = pr) := fun _ => hpr0
                have HX2 : Hid (∀ h : i < vars.length, vars[i] = x) := fun _ => hx
                clear hz hpr0 hx
                have htb := HTB.out
                obtain ⟨tp, htp⟩ : ∃ t, topOf g.ids = t := ⟨_, rfl⟩
                have HTP := Lib.hid htp
                rw [htp] at htb
                clear htp
                obtain ⟨p1, hp1⟩ : ∃ p, x.pn * (g.ports.length : Int) = p := ⟨_, rfl⟩
                obtain ⟨p2, hp2⟩ : ∃ p, x.pid * tp = p := ⟨_, rfl⟩
                have b1 : 0 ≤ p1 ∧ p1 ≤ 2400 := by
                  rw [← hp1]
                  refine ⟨Int.mul_nonneg hsm.pn.1 (by omega), ?_⟩
                  have := Int.mul_le_mul hsm.pn.2 (show (g.ports.length : Int) ≤ 24 by omega) (by omega) (by omega)
                  omega
                have b2 : 0 ≤ p2 ∧ p2 ≤ 25500 := by
                  rw [← hp2]
                  refine ⟨Int.mul_nonneg hsm.pid.1 htb.1, ?_⟩
                  have := Int.mul_le_mul hsm.pid.2 htb.2 htb.1 (by omega)
                  omega
                obtain ⟨s1, s2, s3, s4⟩ := hsm
                have HCELL : Hid (∀ lo hi : Int, lo = x.lo' → hi = x.hi' g.ports.length tp pr.length → cellOK g c vars v i = inB z lo hi) := by
                  rintro lo hi rfl rfl
                  unfold cellOK
                  rw [HX.out, HD.out, HTP.out, HRW.out, HZ.out]
                have HBAD : Hid (cellOK g c vars v i = false → confB g c vars = false) := fun h => conf_bad (.inr (.inr ⟨v, hlt, crow_bad (.inr ⟨i, hil, h⟩)⟩))
                have HNX : Hid (cellOK g c vars v i = true → ∀ u, u < i + 1 → cellOK g c vars v u = true) := fun h u hu => by
                  by_cases e : u = i
                  · rw [e]; exact h
                  · exact HOK.out u (by omega)
                have HIQ : Hid ((Kd.int .i64).C wq.drew A0 g.ids) := Kd.C_keep (HG.out.below HBQ.out).ids (fun _ _ => rfl)
                have HBD : Hid (Below w.heap.size w wq.drew) := below_drew HBQ.out
                have HGD : Hid (wq.drew.heap[w.heap.size]? = some (.cells #[.slice A0 g.ids.length c0, .slice A1 g.ports.length c1] 27 (0, 0))) := HGQ.out
                clear HX HD HZ
                go_wp2_with fail
                have q1 : IntKind.i64.wrap p1 = p1 := IntWalk.i64_in _ (by omega)
                have q2 : IntKind.i64.wrap p2 = p2 := IntWalk.i64_in _ (by omega)
                have q3 : IntKind.i64.wrap (x.hi + p1) = x.hi + p1 := IntWalk.i64_in _ (by omega)
                have q4 : IntKind.i64.wrap (x.hi + p1 + p2) = x.hi + p1 + p2 := IntWalk.i64_in _ (by omega)
                have k1 : (i : Int) < (vars.length : Int) := by omega
                have k2 : (0 : Int) ≤ (i : Int) := by omega
                go_region_held3 (fun w' => w'.cell? ⟨w.heap.size, 0, none⟩ = some (.slice A0 g.ids.length c0) ∧ w'.cell? ⟨w.heap.size, 1, none⟩ = some (.slice A1 g.ports.length c1) ∧ w'.cell? ⟨(adv.add (i * 6)).block, (adv.add (i * 6)).off + 2, none⟩ = some (.int .i64 x.lo) ∧ w'.cell? ⟨(adv.add (i * 6)).block, (adv.add (i * 6)).off + 3, none⟩ = some (.int .i64 x.hi) ∧ w'.cell? ⟨(adv.add (i * 6)).block, (adv.add (i * 6)).off + 4, none⟩ = some (.int .i64 x.pn) ∧ w'.cell? ⟨(adv.add (i * 6)).block, (adv.add (i * 6)).off + 5, none⟩ = some (.int .i64 x.pid))
                  (first | exact ⟨cG0, cG1, cl, ch, cn, cp⟩ | exact ⟨d0, d1, el, eh, en, ep⟩)
                  (first
                    | (go_at_call 120
                       refine (top_calls _ _ _ _ g.ids HIQ.out).mono ?_
                       rintro e w3 ⟨rfl, hb3⟩
                       rw [HTP.out]
                       have HB3 := Lib.hid (HBD.out.trans (hb3.mono HBD.out.size))
                       have hbg3 := blk_below HGD.out hb3
                       have HBG3 := Lib.hid hbg3
                       have d0 := blk_cell (j := 0) (v := .slice A0 g.ids.length c0) hbg3 rfl
                       have d1 := blk_cell (j := 1) (v := .slice A1 g.ports.length c1) hbg3 rfl
                       obtain ⟨adw, hadw, ek, el, eh, en, ep⟩ := at_var (Kd.C_below HVV.out HB3.out) i hil
                       cases hadw
                       rw [HX2.out hil] at ek el eh en ep
                       clear hb3 hbg3))
                clear q1 q2 q3 q4 cG0 cG1 ck cl ch cn cp
                obtain ⟨ad2, AR2, cR2, hA2, hcell, _, hCr3⟩ := Kd.at_slice (Kd.C_below HC.out HB3.out) v hvc
                cases hA2
                have hcv : c[v] = row := by have := HRW.out; rw [List.getD_eq_getElem?_getD, List.getElem?_eq_getElem hvc] at this; exact this
                rw [hcv] at hcell hCr3
                obtain ⟨ad4, rfl, hcz⟩ := Kd.at_int hCr3 i hir
                rw [HZ2.out hir] at hcz
                obtain ⟨ad5, AP5, cP5, rfl, hcp5, _, _⟩ := Kd.at_slice (HG.out.below HB3.out).ports v hlt
                rw [HP2.out hlt] at hcp5
                clear hCr3 hcv
                have k3 : (v : Int) < (g.ports.length : Int) := by omega
                have k5 : (i : Int) < (row.length : Int) := by omega
                by_cases e2 : x.kind = 2
                · have t2 : (x.kind == 2) = true := by simp [e2]
                  have L2 := Lib.hid e2
                  clear e2
                  have HCO : Hid (cellOK g c vars v i = inB z (0) (1)) := HCELL.out _ _ (by unfold Var.lo'; rw [if_pos L2.out]) (by unfold Var.hi'; rw [if_pos L2.out])
                  go_wp2_with fail
                  refine (in_calls _ _ _ _).mono ?_
                  rintro e w7 ⟨rfl, rfl⟩
                  cases hin : inB z (0) (1) with
                  | false =>
                    have HE := Lib.hid (HBAD.out (HCO.out.trans hin))
                    clear hin
                    go_wp2_with fail
                    go_ret
                    exact ⟨by rw [HE.out]; rfl, HB3.out⟩
                  | true =>
                    have HE := Lib.hid (HNX.out (HCO.out.trans hin))
                    clear hin
                    go_wp2_with fail
                    go_roundw
                    case rel => exact ⟨i + 1, by omega, by go_num, HE.out, HB3.out, HBG3.out⟩
                    case measure => simp [intOf]; omega
                · have t2 : (x.kind == 2) = false := by simp [e2]
                  have L2 := Lib.hid e2
                  clear e2
                  by_cases e3 : x.kind = 3
                  · have t3 : (x.kind == 3) = true := by simp [e3]
                    have L3 := Lib.hid e3
                    clear e3
                    have HCO : Hid (cellOK g c vars v i = inB z (-1) ((pr.length : Int) - 1)) := HCELL.out _ _ (by unfold Var.lo'; rw [if_neg L2.out, if_pos L3.out]) (by unfold Var.hi'; rw [if_neg L2.out, if_pos L3.out])
                    go_wp2_with fail
                    have q5 : IntKind.i64.wrap ((pr.length : Int) - 1) = (pr.length : Int) - 1 := IntWalk.i64_in _ (by omega)
                    have k3 : (v : Int) < (g.ports.length : Int) := by omega
                    have k4 : (0 : Int) ≤ (v : Int) := by omega
                    go_quiet (fail)
                    clear q5
                    go_wp2_with fail
                    refine (in_calls _ _ _ _).mono ?_
                    rintro e w7 ⟨rfl, rfl⟩
                    cases hin : inB z (-1) ((pr.length : Int) - 1) with
                    | false =>
                      have HE := Lib.hid (HBAD.out (HCO.out.trans hin))
                      clear hin
                      go_wp2_with fail
                      go_ret
                      exact ⟨by rw [HE.out]; rfl, below_drewN HB3.out _⟩
                    | true =>
                      have HE := Lib.hid (HNX.out (HCO.out.trans hin))
                      clear hin
                      go_wp2_with fail
                      go_roundw
                      case rel => exact ⟨i + 1, by omega, by go_num, HE.out, below_drewN HB3.out _, HBG3.out⟩
                      case measure => simp [intOf]; omega
                  · have t3 : (x.kind == 3) = false := by simp [e3]
                    have L3 := Lib.hid e3
                    clear e3
                    have HCO : Hid (cellOK g c vars v i = inB z (x.lo) (x.hi + p1 + p2)) := HCELL.out _ _ (by unfold Var.lo'; rw [if_neg L2.out, if_neg L3.out]) (by unfold Var.hi'; rw [if_neg L2.out, if_neg L3.out, hp1, hp2])
                    go_wp2_with fail
                    refine (in_calls _ _ _ _).mono ?_
                    rintro e w7 ⟨rfl, rfl⟩
                    cases hin : inB z (x.lo) (x.hi + p1 + p2) with
                    | false =>
                      have HE := Lib.hid (HBAD.out (HCO.out.trans hin))
                      clear hin
                      go_wp2_with fail
                      go_ret
                      exact ⟨by rw [HE.out]; rfl, HB3.out⟩
                    | true =>
                      have HE := Lib.hid (HNX.out (HCO.out.trans hin))
                      clear hin
                      go_wp2_with fail
                      go_roundw
                      case rel => exact ⟨i + 1, by omega, by go_num, HE.out, HB3.out, HBG3.out⟩
                      case measure => simp [intOf]; omega
              · have HS : Hid (∀ u, u < v + 1 → crowOK g c vars u = true) := fun u hu => by
                  by_cases e : u = v
                  · rw [e]; exact crow_good (by rw [HRW.out]; exact HWID.out) fun i hi => HOK.out i (by omega)
                  · exact HROW.out u (by omega)
                go_wp2_with fail
                go_roundw
                case rel => exact ⟨v + 1, by omega, by go_num, HS.out, HBQ.out, HGQ.out⟩
                case measure => simp [intOf]; omega
          · have t2 : ((row.length : Int) != (vars.length : Int)) = true := by rw [bne_iff_ne]; omega
            have HE : Hid (confB g c vars = false) := conf_bad (.inr (.inr ⟨v, hlt, crow_bad (.inl (by rw [HRW.out]; exact hwid))⟩))
            clear hwid
            go_wp2_with fail
            go_ret
            exact ⟨by rw [HE.out]; rfl, HBZ.out⟩
        · have HE : Hid (confB g c vars = true) := conf_good HV.out HLEN.out fun u hu => HROW.out u (by omega)
          go_wp2_with fail
          go_ret
          exact ⟨by rw [HE.out]; rfl, HBZ.out⟩
    · have t1 : ((c.length : Int) != (g.ports.length : Int)) = true := by rw [bne_iff_ne]; omega
      have HE : Hid (confB g c vars = false) := conf_bad (.inr (.inl hlen))
      clear hlen
      go_enter Try.func83, Try.ntmps83
      go_wp2_with fail
      refine (refvalid_calls _ _ _ _ _ _ hg1).mono ?_
      rintro e w1 ⟨rfl, hb1⟩
      rw [HV.out]
      obtain ⟨_, _, _, hbw⟩ := box2 hb1
      have HB := Lib.hid hbw
      clear hb1 hbw
      go_wp2_with fail
      go_ret
      exact ⟨by rw [HE.out]; rfl, HB.out⟩
end Go.Proofs.Ythapikakneikbaa
/-
  As Bridge, beside the contract of selfstabref23.Config: configurations and variables.
-/
namespace Go.Proofs.YthapikakneikbaaG
open Go.RowKit
def toV (x : S51) : Go.Proofs.Ythapikakneikbaa.Var := ⟨x.f0, x.f1, x.f2, x.f3, x.f4, x.f5⟩
theorem Br.var : Br k51 Go.Proofs.Ythapikakneikbaa.kVar toV := ⟨rfl, fun h => k51_open h⟩
/-- A variable of the programs: its numbers are small. -/
def smallV (x : S51) : Bool := decide ((-1000 ≤ x.f2 ∧ x.f2 ≤ 1000) ∧ (-1000 ≤ x.f3 ∧ x.f3 ≤ 1000) ∧ (0 ≤ x.f4 ∧ x.f4 ≤ 100) ∧ (0 ≤ x.f5 ∧ x.f5 ≤ 100))
theorem smallV_is {x : S51} (h : smallV x = true) : (toV x).Small := by
  have h := of_decide_eq_true h
  exact ⟨h.1, h.2.1, h.2.2.1, h.2.2.2⟩
end Go.Proofs.YthapikakneikbaaG
/-
  Plain laws: a configuration by the references' words (Config) is one by the services' words (shape.Holds).
-/
namespace Go.Proofs.YthapikakneikbaaG
open Go.RowKit
open Go.Proofs.Ythapikakneikbaa (holdsB confB inRange rowOK cellOK crowOK inB topOf noVar)
/-- What a variable's greatest value is for shape.Holds. -/
def mostOf (n : Nat) (top : Int) (x : Go.Proofs.Ythapikakneikbaa.Var) : Int := if x.kind = 2 then 1 else if x.kind = 3 then -1 else x.hi + x.pn * n + x.pid * top
theorem conf_holds {g : Go.Proofs.Ythapikakneikbaa.Graph} {c : Go.Proofs.Ythapikakneikbaa.Conf} {vars : List Go.Proofs.Ythapikakneikbaa.Var} {most : List Int} (hv : g.valid = true) (hm : most = vars.map (mostOf g.ports.length (topOf g.ids)))
    (h : ∀ x ∈ vars, x.kind = 3 ∨ (x.kind = 2 ∨ x.lo = 0) ∧ mostOf g.ports.length (topOf g.ids) x ≠ -1) : confB g c vars = holdsB g c most := by
  subst hm
  unfold confB holdsB
  rw [hv, Bool.true_and]
  by_cases hl : c.length = g.ports.length
  · have e1 : (c.length == g.ports.length) = true := by simp [hl]
    rw [decide_eq_true hl, e1, Bool.true_and, Bool.true_and, hl, Bool.eq_iff_iff, List.all_eq_true, List.all_eq_true]
    refine forall_congr' fun v => forall_congr' fun hv => ?_
    unfold crowOK rowOK
    rw [List.length_map]
    generalize hr : c.getD v [] = r
    by_cases hrl : r.length = vars.length
    · have e2 : (r.length == vars.length) = true := by simp [hrl]
      rw [decide_eq_true hrl, e2, Bool.true_and, Bool.true_and, hrl, List.all_eq_true, List.all_eq_true]
      refine forall_congr' fun i => forall_congr' fun hi => ?_
      rw [List.mem_range] at hi
      have hx := h _ (List.getElem_mem hi)
      unfold cellOK inRange inB
      rw [hr]
      have g1 : vars.getD i noVar = vars[i] := by rw [List.getD_eq_getElem?_getD, List.getElem?_eq_getElem hi]; rfl
      have g2 : (vars.map (mostOf g.ports.length (topOf g.ids))).getD i 0 = mostOf g.ports.length (topOf g.ids) vars[i] := by rw [List.getD_eq_getElem?_getD, List.getElem?_map, List.getElem?_eq_getElem hi]; rfl
      rw [g1, g2]
      generalize vars[i] = x at hx
      unfold Go.Proofs.Ythapikakneikbaa.Var.lo' Go.Proofs.Ythapikakneikbaa.Var.hi'
      unfold mostOf at hx ⊢
      by_cases k2 : x.kind = 2
      · simp [k2]
      · by_cases k3 : x.kind = 3
        · simp only [if_neg k2, if_pos k3, if_true, decide_eq_true_eq]
          omega
        · rcases hx with hx | ⟨hx, hy⟩
          · exact absurd hx k3
          · rcases hx with hx | hx
            · exact absurd hx k2
            · simp only [if_neg k2, if_neg k3] at hy ⊢
              rw [if_neg hy, hx]
    · have e2 : (r.length == vars.length) = false := by simp [hrl]
      rw [decide_eq_false hrl, e2, Bool.false_and, Bool.false_and]
  · have e1 : (c.length == g.ports.length) = false := by simp [hl]
    rw [decide_eq_false hl, e1, Bool.false_and, Bool.false_and]
/-- What shape.Holds says: the number of states, and each state's length. -/
theorem holds_rows {g : Go.Proofs.Ythapikakneikbaa.Graph} {c : Go.Proofs.Ythapikakneikbaa.Conf} {most : List Int} (h : holdsB g c most = true) : c.length = g.ports.length ∧ ∀ v, v < c.length → (c.getD v []).length = most.length ∧ ∀ x, x < most.length → inRange (g.ports.getD v []).length (most.getD x 0) ((c.getD v []).getD x 0) = true := by
  unfold holdsB at h
  rw [Bool.and_eq_true, beq_iff_eq, List.all_eq_true] at h
  refine ⟨h.1, fun v hv => ?_⟩
  have h2 := h.2 v (List.mem_range.2 hv)
  unfold rowOK at h2
  rw [Bool.and_eq_true, beq_iff_eq, List.all_eq_true] at h2
  exact ⟨h2.1, fun x hx => h2.2 x (List.mem_range.2 (by omega))⟩
theorem all_rows {c : List (List Int)} {m : Nat} (h : ∀ v, v < c.length → (c.getD v []).length = m) {x : Nat} (hx : x < m) : (c.all fun r => decide (x < r.length)) = true := by
  rw [List.all_eq_true]
  intro r hr
  obtain ⟨i, hi, rfl⟩ := List.mem_iff_getElem.1 hr
  have := h i hi
  rw [List.getD_eq_getElem?_getD, List.getElem?_eq_getElem hi] at this
  simp only [Option.getD_some] at this
  simp [this, hx]
end Go.Proofs.YthapikakneikbaaG
namespace Go.Proofs.YthapikakneikbaaG
open Go.RowKit Go.Proofs.YthapikakneikbaaW.PrintWords Go.Proofs.YthapikakneikbaaW.PrintLast Go.Proofs.YthapikakneikbaaW.PrintMore
attribute [local go_sem] max2_int min2_int max_two min_two max_three min_three max_four min_four   -- for this text's walks alone
set_option linter.unusedVariables false
set_option linter.unusedSimpArgs false
theorem eqA44 (d : Nat) (w : World) (x0 y0 : Int) (x1 y1 : Bool) (x2 y2 : Bool) (x3 y3 : Int) (x4 y4 : Int) :
  (Op.equalIn (d + 2) 44 (.agg #[.int .i64 x0, .bool x1, .bool x2, .int .i64 x3, .int .i64 x4]) (.agg #[.int .i64 y0, .bool y1, .bool y2, .int .i64 y3, .int .i64 y4])).run Try.prog w = .ok (x0 == y0 && (x1 == y1 && (x2 == y2 && (x3 == y3 && (x4 == y4))))) w := by
 refine eqA_of Try.underlying44 (by kernel_rfl) ?_
 refine eqf_cons (by rfl) (by go_simp; rfl) (by go_simp; rfl) (by go_simp) ?_
 refine eqf_cons (by rfl) (by go_simp; rfl) (by go_simp; rfl) (by go_simp) ?_
 refine eqf_cons (by rfl) (by go_simp; rfl) (by go_simp; rfl) (by go_simp) ?_
 refine eqf_cons (by rfl) (by go_simp; rfl) (by go_simp; rfl) (by go_simp) ?_
 exact eqf_last (by rfl) (by go_simp; rfl) (by go_simp; rfl) (by go_simp)
end Go.Proofs.YthapikakneikbaaG
namespace Go.Proofs.YthapikakneikbaaG
open Go.RowKit Go.Proofs.YthapikakneikbaaW.PrintWords Go.Proofs.YthapikakneikbaaW.PrintLast Go.Proofs.YthapikakneikbaaW.PrintMore
attribute [local go_sem] max2_int min2_int max_two min_two max_three min_three max_four min_four   -- for this text's walks alone
set_option linter.unusedVariables false
set_option linter.unusedSimpArgs false
def selfstablaw27_large.f (l0_0 : List Int) (l0_1 : List (List (S60))) (l1 : List (List Int)) : Option (Bool) := if (l0_1.length : Int) > 60 then (some true) else (if (l0_0.length : Int) > 60 then (some true) else (some (decide ((l1.length : Int) > 60))))
set_option maxHeartbeats 8000000 in
set_option maxRecDepth 100000 in
theorem selfstablaw27_large.calls (A0_0 : Option Addr) (c0_0 : Nat) (l0_0 : List Int) (A0_1 : Option Addr) (c0_1 : Nat) (l0_1 : List (List (S60))) (A1 : Option Addr) (c1 : Nat) (l1 : List (List Int)) (r : Bool) (w : World) (hr0_0 : Kd.C (Kd.int .i64) w A0_0 l0_0.length l0_0) (hc0_0 : l0_0.length ≤ c0_0) (hr0_1 : Kd.C (Kd.slice 60 k60) w A0_1 l0_1.length l0_1) (hc0_1 : l0_1.length ≤ c0_1) (hr1 : Kd.C (Kd.slice 3 (Kd.int .i64)) w A1 l1.length l1) (hc1 : l1.length ≤ c1) (h : selfstablaw27_large.f l0_0 l0_1 l1 = some r) :
  Calls Try.prog 57 #[.agg #[.slice A0_0 l0_0.length c0_0, .slice A0_1 l0_1.length c0_1], .slice A1 l1.length c1] w fun e w' => e = .returned (.bool r) ∧ Below w.heap.size w w' := by
 have hu27 := Try.underlying27
 have HR0_0 := Aside0.mk hr0_0
 have HC0_0 := Aside0.mk hc0_0
 clear hr0_0 hc0_0
 have HR0_1 := Aside0.mk hr0_1
 have HC0_1 := Aside0.mk hc0_1
 clear hr0_1 hc0_1
 have HR1 := Aside0.mk hr1
 have HC1 := Aside0.mk hc1
 clear hr1 hc1
 have HB := Aside0.mk (Below.refl w.heap.size w)
 have H : (if (l0_1.length : Int) > 60 then (some true) else (if (l0_0.length : Int) > 60 then (some true) else (some (decide ((l1.length : Int) > 60))))) = some r := h
 clear h
 by_cases c3 : (l0_1.length : Int) > 60
 ·
  rw [if_pos c3] at H
  have c3b0 : decide (60 < (l0_1.length : Int)) = true := decide_eq_true c3
  have c3b1 : decide (60 < l0_1.length) = true := decide_eq_true (by omega)
  clear c3
  obtain rfl := Option.some.inj H
  go_enter Try.func57, Try.ntmps57
  go_wp2_with (first | ((with_reducible refine gate_dst (N := 2) rfl ?_); (try (refine gate_guard (by rfl) ?_; dsimp only)); refine box_event ?hg (N := 2) ?hd (cs := #[.slice A0_0 l0_0.length c0_0, .slice A0_1 l0_1.length c0_1]) (t := 27) ?hr ?_; (case hd => rfl); (case hg => rfl); (case hr => first | (go_simp; done) | (go_simp; rfl)); intro gb756 hg w4 hbox hb; have n0_ := Aside0.mk (below_step (by repeat (first | (with_reducible first | exact HB.out | apply below_alloc | apply pw_below_drewN | apply below_drew1) | exact HB.out)) hb); have n1_ := Aside0.mk (hbox); have n2_ := Aside0.mk ((by rw [hg]; exact (below_size (by repeat (first | (with_reducible first | exact HB.out | apply below_alloc | apply pw_below_drewN | apply below_drew1) | exact HB.out))) : w.heap.size ≤ gb756)); have n3_ := Aside0.mk ((by rw [hg]; exact (below_size (by repeat (first | (with_reducible first | exact HB.out | apply below_alloc | apply pw_below_drewN | apply below_drew1) | exact HB.out))) : w.heap.size ≤ gb756)); clear HB; have HB := n0_; have BK756 := n1_; have GW756 := n2_; have GE756 := n3_; clear n0_ n1_ n2_ n3_; clear hb hbox hg; have hcz5_0 : w4.cell? ⟨gb756, 0, none⟩ = some (.slice A0_0 l0_0.length c0_0) := (blk_cell BK756.out 0).trans rfl; have hcz5_1 : w4.cell? ⟨gb756, 1, none⟩ = some (.slice A0_1 l0_1.length c0_1) := (blk_cell BK756.out 1).trans rfl; have hfz5_0 := blk_frozen BK756.out 0; have hfz5_1 := blk_frozen BK756.out 1))
  go_ret
  exact ⟨by first | rfl | (simp [errW_none, errW_some] <;> rfl) | (simp [*, errW_none, errW_some] <;> rfl), by repeat (first | (with_reducible first | exact HB.out | apply below_alloc | apply pw_below_drewN | apply below_drew1 | refine below_set ?_ GE756.out) | exact HB.out)⟩
 ·
  rw [if_neg c3] at H
  have c3b0 : decide (60 < (l0_1.length : Int)) = false := decide_eq_false c3
  have c3b1 : decide (60 < l0_1.length) = false := decide_eq_false (by omega)
  clear c3
  by_cases c6 : (l0_0.length : Int) > 60
  ·
   rw [if_pos c6] at H
   have c6b0 : decide (60 < (l0_0.length : Int)) = true := decide_eq_true c6
   have c6b1 : decide (60 < l0_0.length) = true := decide_eq_true (by omega)
   clear c6
   obtain rfl := Option.some.inj H
   go_enter Try.func57, Try.ntmps57
   go_wp2_with (first | ((with_reducible refine gate_dst (N := 2) rfl ?_); (try (refine gate_guard (by rfl) ?_; dsimp only)); refine box_event ?hg (N := 2) ?hd (cs := #[.slice A0_0 l0_0.length c0_0, .slice A0_1 l0_1.length c0_1]) (t := 27) ?hr ?_; (case hd => rfl); (case hg => rfl); (case hr => first | (go_simp; done) | (go_simp; rfl)); intro gb756 hg w7 hbox hb; have n0_ := Aside0.mk (below_step (by repeat (first | (with_reducible first | exact HB.out | apply below_alloc | apply pw_below_drewN | apply below_drew1) | exact HB.out)) hb); have n1_ := Aside0.mk (hbox); have n2_ := Aside0.mk ((by rw [hg]; exact (below_size (by repeat (first | (with_reducible first | exact HB.out | apply below_alloc | apply pw_below_drewN | apply below_drew1) | exact HB.out))) : w.heap.size ≤ gb756)); have n3_ := Aside0.mk ((by rw [hg]; exact (below_size (by repeat (first | (with_reducible first | exact HB.out | apply below_alloc | apply pw_below_drewN | apply below_drew1) | exact HB.out))) : w.heap.size ≤ gb756)); clear HB; have HB := n0_; have BK756 := n1_; have GW756 := n2_; have GE756 := n3_; clear n0_ n1_ n2_ n3_; clear hb hbox hg; have hcz8_0 : w7.cell? ⟨gb756, 0, none⟩ = some (.slice A0_0 l0_0.length c0_0) := (blk_cell BK756.out 0).trans rfl; have hcz8_1 : w7.cell? ⟨gb756, 1, none⟩ = some (.slice A0_1 l0_1.length c0_1) := (blk_cell BK756.out 1).trans rfl; have hfz8_0 := blk_frozen BK756.out 0; have hfz8_1 := blk_frozen BK756.out 1))
   go_ret
   exact ⟨by first | rfl | (simp [errW_none, errW_some] <;> rfl) | (simp [*, errW_none, errW_some] <;> rfl), by repeat (first | (with_reducible first | exact HB.out | apply below_alloc | apply pw_below_drewN | apply below_drew1 | refine below_set ?_ GE756.out) | exact HB.out)⟩
  ·
   rw [if_neg c6] at H
   have c6b0 : decide (60 < (l0_0.length : Int)) = false := decide_eq_false c6
   have c6b1 : decide (60 < l0_0.length) = false := decide_eq_false (by omega)
   clear c6
   obtain rfl := Option.some.inj H
   go_enter Try.func57, Try.ntmps57
   go_wp2_with (first | ((with_reducible refine gate_dst (N := 2) rfl ?_); (try (refine gate_guard (by rfl) ?_; dsimp only)); refine box_event ?hg (N := 2) ?hd (cs := #[.slice A0_0 l0_0.length c0_0, .slice A0_1 l0_1.length c0_1]) (t := 27) ?hr ?_; (case hd => rfl); (case hg => rfl); (case hr => first | (go_simp; done) | (go_simp; rfl)); intro gb756 hg w9 hbox hb; have n0_ := Aside0.mk (below_step (by repeat (first | (with_reducible first | exact HB.out | apply below_alloc | apply pw_below_drewN | apply below_drew1) | exact HB.out)) hb); have n1_ := Aside0.mk (hbox); have n2_ := Aside0.mk ((by rw [hg]; exact (below_size (by repeat (first | (with_reducible first | exact HB.out | apply below_alloc | apply pw_below_drewN | apply below_drew1) | exact HB.out))) : w.heap.size ≤ gb756)); have n3_ := Aside0.mk ((by rw [hg]; exact (below_size (by repeat (first | (with_reducible first | exact HB.out | apply below_alloc | apply pw_below_drewN | apply below_drew1) | exact HB.out))) : w.heap.size ≤ gb756)); clear HB; have HB := n0_; have BK756 := n1_; have GW756 := n2_; have GE756 := n3_; clear n0_ n1_ n2_ n3_; clear hb hbox hg; have hcz10_0 : w9.cell? ⟨gb756, 0, none⟩ = some (.slice A0_0 l0_0.length c0_0) := (blk_cell BK756.out 0).trans rfl; have hcz10_1 : w9.cell? ⟨gb756, 1, none⟩ = some (.slice A0_1 l0_1.length c0_1) := (blk_cell BK756.out 1).trans rfl; have hfz10_0 := blk_frozen BK756.out 0; have hfz10_1 := blk_frozen BK756.out 1))
   go_ret
   exact ⟨by first | rfl | (simp [errW_none, errW_some] <;> rfl) | (simp [*, errW_none, errW_some] <;> rfl), by repeat (first | (with_reducible first | exact HB.out | apply below_alloc | apply pw_below_drewN | apply below_drew1 | refine below_set ?_ GE756.out) | exact HB.out)⟩
end Go.Proofs.YthapikakneikbaaG
namespace Go.Proofs.YthapikakneikbaaG
open Go.RowKit Go.Proofs.YthapikakneikbaaW.PrintWords Go.Proofs.YthapikakneikbaaW.PrintLast Go.Proofs.YthapikakneikbaaW.PrintMore
attribute [local go_sem] max2_int min2_int max_two min_two max_three min_three max_four min_four   -- for this text's walks alone
set_option linter.unusedVariables false
set_option linter.unusedSimpArgs false
def center_Fit.f (k : Nat) (l0_0 : List Int) (l0_1 : List (List (S60))) : Option (Bool) := (graph_Tree.f k l0_0 l0_1).bind fun t765 => (some t765)
theorem center_Fit.mono : ∀ a0 a1 k, LeO (center_Fit.f k a0 a1) (center_Fit.f (k + 1) a0 a1) := by
 intro a0 a1 k
 unfold center_Fit.f
 repeat' first
   | (with_reducible exact graph_Tree.mono _ _ _)
   | (with_reducible exact LeO.refl _)
   | (with_reducible exact LeO.none _)
   | (with_reducible refine LeO.ite ?_ ?_)
   | (with_reducible refine LeO.bind ?_ (fun _ => ?_))
   | exact graph_Tree.mono _ _ _
   | exact LeO.none _
   | refine LeO.ite ?_ ?_
   | refine LeO.bind ?_ (fun _ => ?_)
set_option maxHeartbeats 8000000 in
set_option maxRecDepth 100000 in
theorem center_Fit.calls (k : Nat) (A0_0 : Option Addr) (c0_0 : Nat) (l0_0 : List Int) (A0_1 : Option Addr) (c0_1 : Nat) (l0_1 : List (List (S60))) (r : Bool) (w : World) (hr0_0 : Kd.C (Kd.int .i64) w A0_0 l0_0.length l0_0) (hc0_0 : l0_0.length ≤ c0_0) (hr0_1 : Kd.C (Kd.slice 60 k60) w A0_1 l0_1.length l0_1) (hc0_1 : l0_1.length ≤ c0_1) (h : center_Fit.f k l0_0 l0_1 = some r) :
  Calls Try.prog 59 #[.agg #[.slice A0_0 l0_0.length c0_0, .slice A0_1 l0_1.length c0_1]] w fun e w' => e = .returned (.bool r) ∧ Below w.heap.size w w' := by
 have hu27 := Try.underlying27
 have HR0_0 := Aside0.mk hr0_0
 have HC0_0 := Aside0.mk hc0_0
 clear hr0_0 hc0_0
 have HR0_1 := Aside0.mk hr0_1
 have HC0_1 := Aside0.mk hc0_1
 clear hr0_1 hc0_1
 have HB := Aside0.mk (Below.refl w.heap.size w)
 have H : ((graph_Tree.f k l0_0 l0_1).bind fun t765 => (some t765)) = some r := h
 clear h
 replace H := Option.bind_eq_some_iff.mp H
 obtain ⟨t765, A20, H⟩ := H
 replace H : (some t765) = some r := H
 have A2 := Aside0.mk A20
 clear A20
 obtain rfl := Option.some.inj H
 go_enter Try.func59, Try.ntmps59
 go_wp2_with (first | ((with_reducible refine gate_dst (N := 1) rfl ?_); refine box_event ?hg (N := 1) ?hd (cs := #[.slice A0_0 l0_0.length c0_0, .slice A0_1 l0_1.length c0_1]) (t := 27) ?hr ?_; (case hd => rfl); (case hg => rfl); (case hr => first | (go_simp; done) | (go_simp; rfl)); intro gb764 hg w3 hbox hb; have n0_ := Aside0.mk (below_step (by repeat (first | (with_reducible first | exact HB.out | apply below_alloc | apply pw_below_drewN | apply below_drew1) | exact HB.out)) hb); have n1_ := Aside0.mk (hbox); have n2_ := Aside0.mk ((by rw [hg]; exact (below_size (by repeat (first | (with_reducible first | exact HB.out | apply below_alloc | apply pw_below_drewN | apply below_drew1) | exact HB.out))) : w.heap.size ≤ gb764)); have n3_ := Aside0.mk ((by rw [hg]; exact (below_size (by repeat (first | (with_reducible first | exact HB.out | apply below_alloc | apply pw_below_drewN | apply below_drew1) | exact HB.out))) : w.heap.size ≤ gb764)); clear HB; have HB := n0_; have BK764 := n1_; have GW764 := n2_; have GE764 := n3_; clear n0_ n1_ n2_ n3_; clear hb hbox hg; have hcz4_0 : w3.cell? ⟨gb764, 0, none⟩ = some (.slice A0_0 l0_0.length c0_0) := (blk_cell BK764.out 0).trans rfl; have hcz4_1 : w3.cell? ⟨gb764, 1, none⟩ = some (.slice A0_1 l0_1.length c0_1) := (blk_cell BK764.out 1).trans rfl; have hfz4_0 := blk_frozen BK764.out 0; have hfz4_1 := blk_frozen BK764.out 1) | ((with_reducible refine gate_callee (f := 104) rfl ?_); refine goesL_ (some 4) rfl rfl Try.func104 (by kernel_rfl) rfl #[.agg #[.slice A0_0 l0_0.length c0_0, .slice A0_1 l0_1.length c0_1]] rfl (by (try simp only [List.map_toArray, List.map_cons, List.map_nil]); first | done | rfl | (simp only [List.length_drop, List.length_take]; rfl)) ?_; (with_reducible refine (graph_Tree.calls k _ _ l0_0 _ _ l0_1 t765 _ ?side1 ?side2 ?side3 ?side4 A2.out).mono ?_); (case side1 => repeat (first | exact (Kd.C_below HR0_0.out HB.out) | (with_reducible refine Kd.C_alloc ?_ _) | (with_reducible refine Kd.C_drewN ?_ _) | (with_reducible refine Kd.C_drew ?_))); (case side2 => exact HC0_0.out); (case side3 => repeat (first | exact (Kd.C_below HR0_1.out HB.out) | (with_reducible refine Kd.C_alloc ?_ _) | (with_reducible refine Kd.C_drewN ?_ _) | (with_reducible refine Kd.C_drew ?_))); (case side4 => exact HC0_1.out); rintro e w5 ⟨rfl, hb⟩; refine ⟨_, rfl, ?_⟩; have n0_ := Aside0.mk (blk_below (g := gb764) (o := .cells #[.slice A0_0 l0_0.length c0_0, .slice A0_1 l0_1.length c0_1] 27 (0, 0)) (by (with_reducible repeat (first | refine blk_drewN ?_ _ | refine blk_drew ?_ | refine blk_alloc ?_ _)); exact BK764.out) hb); have n1_ := Aside0.mk (below_step (by repeat (first | (with_reducible first | exact HB.out | apply below_alloc | apply pw_below_drewN | apply below_drew1 | refine below_set ?_ GE764.out) | exact HB.out)) hb); clear BK764; clear HB; have BK764 := n0_; have HB := n1_; clear n0_ n1_; (try clear hb); (try clear hb2); (try clear hk); (try clear hi)))
 go_ret
 exact ⟨by first | rfl | (simp [errW_none, errW_some] <;> rfl) | (simp [*, errW_none, errW_some] <;> rfl), by repeat (first | (with_reducible first | exact HB.out | apply below_alloc | apply pw_below_drewN | apply below_drew1 | refine below_set ?_ GE764.out) | exact HB.out)⟩
end Go.Proofs.YthapikakneikbaaG
namespace Go.Proofs.YthapikakneikbaaG
open Go.RowKit Go.Proofs.YthapikakneikbaaW.PrintWords Go.Proofs.YthapikakneikbaaW.PrintLast Go.Proofs.YthapikakneikbaaW.PrintMore
attribute [local go_sem] max2_int min2_int max_two min_two max_three min_three max_four min_four   -- for this text's walks alone
set_option linter.unusedVariables false
set_option linter.unusedSimpArgs false
def shape_Holds.f (l0_0 : List Int) (l0_1 : List (List (S60))) (l1 : List (List Int)) (l2 : List Int) : Option (Bool) := some (Go.Proofs.Ythapikakneikbaa.holdsB (toG l0_0 l0_1) l1 l2)
theorem shape_Holds.calls (A0_0 : Option Addr) (c0_0 : Nat) (l0_0 : List Int) (A0_1 : Option Addr) (c0_1 : Nat) (l0_1 : List (List (S60))) (A1 : Option Addr) (c1 : Nat) (l1 : List (List Int)) (A2 : Option Addr) (c2 : Nat) (l2 : List Int) (r : Bool) (w : World) (hr0_0 : Kd.C (Kd.int .i64) w A0_0 l0_0.length l0_0) (hc0_0 : l0_0.length ≤ c0_0) (hr0_1 : Kd.C (Kd.slice 60 k60) w A0_1 l0_1.length l0_1) (hc0_1 : l0_1.length ≤ c0_1) (hr1 : Kd.C (Kd.slice 3 (Kd.int .i64)) w A1 l1.length l1) (hc1 : l1.length ≤ c1) (hr2 : Kd.C (Kd.int .i64) w A2 l2.length l2) (hc2 : l2.length ≤ c2) (h : shape_Holds.f l0_0 l0_1 l1 l2 = some r) :
  Calls Try.prog 73 #[.agg #[.slice A0_0 l0_0.length c0_0, .slice A0_1 l0_1.length c0_1], .slice A1 l1.length c1, .slice A2 l2.length c2] w fun e w' => e = .returned (.bool r) ∧ Below w.heap.size w w' := by
 injection h with h
 subst h
 have hv := Go.Proofs.Ythapikakneikbaa.holds_calls w A0_0 c0_0 A0_1 c0_1 (toG l0_0 l0_1) (isGraph hr0_0 hc0_0 hr0_1 hc0_1) A1 c1 l1 (C_conf hr1) A2 c2 l2 (C_ints hr2)
 rw [show (toG l0_0 l0_1).ports.length = l0_1.length by simp [toG]] at hv
 exact hv
end Go.Proofs.YthapikakneikbaaG
namespace Go.Proofs.YthapikakneikbaaG
open Go.RowKit Go.Proofs.YthapikakneikbaaW.PrintWords Go.Proofs.YthapikakneikbaaW.PrintLast Go.Proofs.YthapikakneikbaaW.PrintMore
attribute [local go_sem] max2_int min2_int max_two min_two max_three min_three max_four min_four   -- for this text's walks alone
set_option linter.unusedVariables false
set_option linter.unusedSimpArgs false
def center_configuration.f (k : Nat) (l0_0 : List Int) (l0_1 : List (List (S60))) (l1 : List (List Int)) : Option (Bool) := (center_Fit.f k l0_0 l0_1).bind fun t767 => (if t767 = true then ((shape_Holds.f l0_0 l0_1 l1 (([(l0_1.length : Int)] : List Int))).bind fun t771 => (some t771)) else (some false))
theorem center_configuration.mono : ∀ a0 a1 a2 k, LeO (center_configuration.f k a0 a1 a2) (center_configuration.f (k + 1) a0 a1 a2) := by
 intro a0 a1 a2 k
 unfold center_configuration.f
 repeat' first
   | (with_reducible exact center_Fit.mono _ _ _)
   | (with_reducible exact LeO.refl _)
   | (with_reducible exact LeO.none _)
   | (with_reducible refine LeO.ite ?_ ?_)
   | (with_reducible refine LeO.bind ?_ (fun _ => ?_))
   | exact center_Fit.mono _ _ _
   | exact LeO.none _
   | refine LeO.ite ?_ ?_
   | refine LeO.bind ?_ (fun _ => ?_)
set_option maxHeartbeats 8000000 in
set_option maxRecDepth 100000 in
theorem center_configuration.calls (k : Nat) (A0_0 : Option Addr) (c0_0 : Nat) (l0_0 : List Int) (A0_1 : Option Addr) (c0_1 : Nat) (l0_1 : List (List (S60))) (A1 : Option Addr) (c1 : Nat) (l1 : List (List Int)) (r : Bool) (w : World) (hr0_0 : Kd.C (Kd.int .i64) w A0_0 l0_0.length l0_0) (hc0_0 : l0_0.length ≤ c0_0) (hr0_1 : Kd.C (Kd.slice 60 k60) w A0_1 l0_1.length l0_1) (hc0_1 : l0_1.length ≤ c0_1) (hr1 : Kd.C (Kd.slice 3 (Kd.int .i64)) w A1 l1.length l1) (hc1 : l1.length ≤ c1) (h : center_configuration.f k l0_0 l0_1 l1 = some r) :
  Calls Try.prog 106 #[.agg #[.slice A0_0 l0_0.length c0_0, .slice A0_1 l0_1.length c0_1], .slice A1 l1.length c1] w fun e w' => e = .returned (.bool r) ∧ Below w.heap.size w w' := by
 have hu27 := Try.underlying27
 have HR0_0 := Aside0.mk hr0_0
 have HC0_0 := Aside0.mk hc0_0
 clear hr0_0 hc0_0
 have HR0_1 := Aside0.mk hr0_1
 have HC0_1 := Aside0.mk hc0_1
 clear hr0_1 hc0_1
 have HR1 := Aside0.mk hr1
 have HC1 := Aside0.mk hc1
 clear hr1 hc1
 have HB := Aside0.mk (Below.refl w.heap.size w)
 have H : ((center_Fit.f k l0_0 l0_1).bind fun t767 => (if t767 = true then ((shape_Holds.f l0_0 l0_1 l1 (([(l0_1.length : Int)] : List Int))).bind fun t771 => (some t771)) else (some false))) = some r := h
 clear h
 replace H := Option.bind_eq_some_iff.mp H
 obtain ⟨t767, A30, H⟩ := H
 replace H : (if t767 = true then ((shape_Holds.f l0_0 l0_1 l1 (([(l0_1.length : Int)] : List Int))).bind fun t771 => (some t771)) else (some false)) = some r := H
 have A3 := Aside0.mk A30
 clear A30
 by_cases c4 : t767 = true
 ·
  subst c4
  have H1 : ((shape_Holds.f l0_0 l0_1 l1 (([(l0_1.length : Int)] : List Int))).bind fun t771 => (some t771)) = some r := by rw [if_pos rfl] at H; exact H
  clear H
  have H := H1
  clear H1
  obtain ⟨y768, hy768⟩ : ∃ y_ : List Int, y_ = (([(l0_1.length : Int)] : List Int)) := ⟨_, rfl⟩
  replace H : ((shape_Holds.f l0_0 l0_1 l1 y768).bind fun t771 => (some t771)) = some r := by first | (rw [hy768]; with_reducible exact H) | (have H2_ := (Option.bind_some _ _).symm.trans H; rw [hy768]; with_reducible exact H2_) | (have H2_ := (Option.bind_some _ _).symm.trans H; with_reducible exact H2_) | with_reducible exact H | (rw [hy768]; exact H) | exact H
  have Ny768 := Aside0.mk hy768
  clear hy768
  replace H := Option.bind_eq_some_iff.mp H
  obtain ⟨t771, A50, H⟩ := H
  replace H : (some t771) = some r := H
  have A5 := Aside0.mk A50
  clear A50
  obtain rfl := Option.some.inj H
  go_enter Try.func106, Try.ntmps106
  go_wp2_with (first | ((with_reducible refine gate_dst (N := 2) rfl ?_); (try (refine gate_guard (by rfl) ?_; dsimp only)); refine box_event ?hg (N := 2) ?hd (cs := #[.slice A0_0 l0_0.length c0_0, .slice A0_1 l0_1.length c0_1]) (t := 27) ?hr ?_; (case hd => rfl); (case hg => rfl); (case hr => first | (go_simp; done) | (go_simp; rfl)); intro gb766 hg w6 hbox hb; have n0_ := Aside0.mk (below_step (by repeat (first | (with_reducible first | exact HB.out | apply below_alloc | apply pw_below_drewN | apply below_drew1) | exact HB.out)) hb); have n1_ := Aside0.mk (hbox); have n2_ := Aside0.mk ((by rw [hg]; exact (below_size (by repeat (first | (with_reducible first | exact HB.out | apply below_alloc | apply pw_below_drewN | apply below_drew1) | exact HB.out))) : w.heap.size ≤ gb766)); have n3_ := Aside0.mk ((by rw [hg]; exact (below_size (by repeat (first | (with_reducible first | exact HB.out | apply below_alloc | apply pw_below_drewN | apply below_drew1) | exact HB.out))) : w.heap.size ≤ gb766)); clear HB; have HB := n0_; have BK766 := n1_; have GW766 := n2_; have GE766 := n3_; clear n0_ n1_ n2_ n3_; clear hb hbox hg; have hcz7_0 : w6.cell? ⟨gb766, 0, none⟩ = some (.slice A0_0 l0_0.length c0_0) := (blk_cell BK766.out 0).trans rfl; have hcz7_1 : w6.cell? ⟨gb766, 1, none⟩ = some (.slice A0_1 l0_1.length c0_1) := (blk_cell BK766.out 1).trans rfl; have hfz7_0 := blk_frozen BK766.out 0; have hfz7_1 := blk_frozen BK766.out 1) | ((with_reducible refine gate_callee (f := 59) rfl ?_); refine goesL_ (some 6) rfl rfl Try.func59 (by kernel_rfl) rfl #[.agg #[.slice A0_0 l0_0.length c0_0, .slice A0_1 l0_1.length c0_1]] rfl (by (try simp only [List.map_toArray, List.map_cons, List.map_nil]); first | done | rfl | (simp only [List.length_drop, List.length_take]; rfl)) ?_; (with_reducible refine (center_Fit.calls k _ _ l0_0 _ _ l0_1 true _ ?side1 ?side2 ?side3 ?side4 A3.out).mono ?_); (case side1 => repeat (first | exact (Kd.C_below HR0_0.out HB.out) | (with_reducible refine Kd.C_alloc ?_ _) | (with_reducible refine Kd.C_drewN ?_ _) | (with_reducible refine Kd.C_drew ?_))); (case side2 => exact HC0_0.out); (case side3 => repeat (first | exact (Kd.C_below HR0_1.out HB.out) | (with_reducible refine Kd.C_alloc ?_ _) | (with_reducible refine Kd.C_drewN ?_ _) | (with_reducible refine Kd.C_drew ?_))); (case side4 => exact HC0_1.out); rintro e w8 ⟨rfl, hb⟩; refine ⟨_, rfl, ?_⟩; have n0_ := Aside0.mk (blk_below (g := gb766) (o := .cells #[.slice A0_0 l0_0.length c0_0, .slice A0_1 l0_1.length c0_1] 27 (0, 0)) (by (with_reducible repeat (first | refine blk_drewN ?_ _ | refine blk_drew ?_ | refine blk_alloc ?_ _)); exact BK766.out) hb); have n1_ := Aside0.mk (below_step (by repeat (first | (with_reducible first | exact HB.out | apply below_alloc | apply pw_below_drewN | apply below_drew1 | refine below_set ?_ GE766.out) | exact HB.out)) hb); clear BK766; clear HB; have BK766 := n0_; have HB := n1_; clear n0_ n1_; (try clear hb); (try clear hb2); (try clear hk); (try clear hi); have hcz9_0 : w8.cell? ⟨gb766, 0, none⟩ = some (.slice A0_0 l0_0.length c0_0) := (blk_cell BK766.out 0).trans rfl; have hcz9_1 : w8.cell? ⟨gb766, 1, none⟩ = some (.slice A0_1 l0_1.length c0_1) := (blk_cell BK766.out 1).trans rfl; have hfz9_0 := blk_frozen BK766.out 0; have hfz9_1 := blk_frozen BK766.out 1) | ((with_reducible refine gate_dst (N := 13) rfl ?_); (try (refine gate_guard (by rfl) ?_; dsimp only)); refine Kd.R_lit (Kd.int .i64) _ 3 ?hg (N := 13) ?hd (xs := ([(l0_1.length : Int)] : List Int)) (inner := [.int .i64 (l0_1.length : Int)]) (ok := fun _ => True) (okp := fun _ => True) ?hr ?hp (fun _ hk => hk) trivial (Below.refl _ _) (Nat.le_refl _) (by simp) ?_; (case hd => rfl); (case hg => rfl); (case hr => first | (go_simp; done) | (go_simp; rfl)); (case hp => exact (Reps.one (show Kd.M (Kd.int .i64) _ _ _ (l0_1.length : Int) [.int .i64 (l0_1.length : Int)] from rfl) (Reps.none _ _))); intro v769 w10 ho11 hb hg_ hnew_; clear hg_ hnew_; (first | rw [← Ny768.out] at ho11 | (simp only [Int.reduceToNat] at ho11; rw [← Ny768.out] at ho11)); have n0_ := Aside0.mk (Kd.R_lower ho11 (below_size (by repeat (first | (with_reducible first | exact HB.out | apply below_alloc | apply pw_below_drewN | apply below_drew1 | refine below_set ?_ GE766.out) | exact HB.out)))); have n1_ := Aside0.mk (blk_below (g := gb766) (o := .cells #[.slice A0_0 l0_0.length c0_0, .slice A0_1 l0_1.length c0_1] 27 (0, 0)) (by (with_reducible repeat (first | refine blk_drewN ?_ _ | refine blk_drew ?_ | refine blk_alloc ?_ _)); exact BK766.out) hb); have n2_ := Aside0.mk (below_step (by repeat (first | (with_reducible first | exact HB.out | apply below_alloc | apply pw_below_drewN | apply below_drew1 | refine below_set ?_ GE766.out) | exact HB.out)) hb); clear BK766; clear HB; have HO770 := n0_; have BK766 := n1_; have HB := n2_; clear n0_ n1_ n2_; clear hb ho11; obtain ⟨Ao12, co12, eo12⟩ := Kd.R_slice HO770.out; subst eo12) | (go_at_call 73; (with_reducible refine (shape_Holds.calls _ _ l0_0 _ _ l0_1 _ _ l1 _ _ y768 t771 _ ?side1 ?side2 ?side3 ?side4 ?side5 ?side6 ?side7 ?side8 A5.out).mono ?_); (case side1 => repeat (first | exact (Kd.C_below HR0_0.out HB.out) | (with_reducible refine Kd.C_alloc ?_ _) | (with_reducible refine Kd.C_drewN ?_ _) | (with_reducible refine Kd.C_drew ?_))); (case side2 => exact HC0_0.out); (case side3 => repeat (first | exact (Kd.C_below HR0_1.out HB.out) | (with_reducible refine Kd.C_alloc ?_ _) | (with_reducible refine Kd.C_drewN ?_ _) | (with_reducible refine Kd.C_drew ?_))); (case side4 => exact HC0_1.out); (case side5 => repeat (first | exact (Kd.C_below HR1.out HB.out) | (with_reducible refine Kd.C_alloc ?_ _) | (with_reducible refine Kd.C_drewN ?_ _) | (with_reducible refine Kd.C_drew ?_))); (case side6 => exact HC1.out); (case side7 => repeat (first | exact (Kd.R_reads' HO770.out).2.2 | (with_reducible refine Kd.C_alloc ?_ _) | (with_reducible refine Kd.C_drewN ?_ _) | (with_reducible refine Kd.C_drew ?_))); (case side8 => exact (Kd.R_reads' HO770.out).2.1); rintro e w13 ⟨rfl, hb⟩; have n0_ := Aside0.mk (Kd.R_below (by (with_reducible repeat (first | apply Kd.R_alloc | apply Kd.R_drewN | apply Kd.R_drew)); exact HO770.out) hb); have n1_ := Aside0.mk (blk_below (g := gb766) (o := .cells #[.slice A0_0 l0_0.length c0_0, .slice A0_1 l0_1.length c0_1] 27 (0, 0)) (by (with_reducible repeat (first | refine blk_drewN ?_ _ | refine blk_drew ?_ | refine blk_alloc ?_ _)); exact BK766.out) hb); have n2_ := Aside0.mk (below_step (by repeat (first | (with_reducible first | exact HB.out | apply below_alloc | apply pw_below_drewN | apply below_drew1 | refine below_set ?_ GE766.out) | exact HB.out)) hb); clear HO770; clear BK766; clear HB; have HO770 := n0_; have BK766 := n1_; have HB := n2_; clear n0_ n1_ n2_; (try clear hb); (try clear hb2); (try clear hk); (try clear hi)))
  go_ret
  exact ⟨by first | rfl | (simp [errW_none, errW_some] <;> rfl) | (simp [*, errW_none, errW_some] <;> rfl), by repeat (first | (with_reducible first | exact HB.out | apply below_alloc | apply pw_below_drewN | apply below_drew1 | refine below_set ?_ GE766.out) | exact HB.out)⟩
 ·
  replace c4 := Bool.eq_false_iff.mpr c4
  subst c4
  have H1 : (some false) = some r := by rw [if_neg (show ¬ (false = true) by decide)] at H; exact H
  clear H
  have H := H1
  clear H1
  obtain rfl := Option.some.inj H
  go_enter Try.func106, Try.ntmps106
  go_wp2_with (first | ((with_reducible refine gate_dst (N := 2) rfl ?_); (try (refine gate_guard (by rfl) ?_; dsimp only)); refine box_event ?hg (N := 2) ?hd (cs := #[.slice A0_0 l0_0.length c0_0, .slice A0_1 l0_1.length c0_1]) (t := 27) ?hr ?_; (case hd => rfl); (case hg => rfl); (case hr => first | (go_simp; done) | (go_simp; rfl)); intro gb766 hg w14 hbox hb; have n0_ := Aside0.mk (below_step (by repeat (first | (with_reducible first | exact HB.out | apply below_alloc | apply pw_below_drewN | apply below_drew1) | exact HB.out)) hb); have n1_ := Aside0.mk (hbox); have n2_ := Aside0.mk ((by rw [hg]; exact (below_size (by repeat (first | (with_reducible first | exact HB.out | apply below_alloc | apply pw_below_drewN | apply below_drew1) | exact HB.out))) : w.heap.size ≤ gb766)); have n3_ := Aside0.mk ((by rw [hg]; exact (below_size (by repeat (first | (with_reducible first | exact HB.out | apply below_alloc | apply pw_below_drewN | apply below_drew1) | exact HB.out))) : w.heap.size ≤ gb766)); clear HB; have HB := n0_; have BK766 := n1_; have GW766 := n2_; have GE766 := n3_; clear n0_ n1_ n2_ n3_; clear hb hbox hg; have hcz15_0 : w14.cell? ⟨gb766, 0, none⟩ = some (.slice A0_0 l0_0.length c0_0) := (blk_cell BK766.out 0).trans rfl; have hcz15_1 : w14.cell? ⟨gb766, 1, none⟩ = some (.slice A0_1 l0_1.length c0_1) := (blk_cell BK766.out 1).trans rfl; have hfz15_0 := blk_frozen BK766.out 0; have hfz15_1 := blk_frozen BK766.out 1) | ((with_reducible refine gate_callee (f := 59) rfl ?_); refine goesL_ (some 6) rfl rfl Try.func59 (by kernel_rfl) rfl #[.agg #[.slice A0_0 l0_0.length c0_0, .slice A0_1 l0_1.length c0_1]] rfl (by (try simp only [List.map_toArray, List.map_cons, List.map_nil]); first | done | rfl | (simp only [List.length_drop, List.length_take]; rfl)) ?_; (with_reducible refine (center_Fit.calls k _ _ l0_0 _ _ l0_1 false _ ?side1 ?side2 ?side3 ?side4 A3.out).mono ?_); (case side1 => repeat (first | exact (Kd.C_below HR0_0.out HB.out) | (with_reducible refine Kd.C_alloc ?_ _) | (with_reducible refine Kd.C_drewN ?_ _) | (with_reducible refine Kd.C_drew ?_))); (case side2 => exact HC0_0.out); (case side3 => repeat (first | exact (Kd.C_below HR0_1.out HB.out) | (with_reducible refine Kd.C_alloc ?_ _) | (with_reducible refine Kd.C_drewN ?_ _) | (with_reducible refine Kd.C_drew ?_))); (case side4 => exact HC0_1.out); rintro e w16 ⟨rfl, hb⟩; refine ⟨_, rfl, ?_⟩; have n0_ := Aside0.mk (blk_below (g := gb766) (o := .cells #[.slice A0_0 l0_0.length c0_0, .slice A0_1 l0_1.length c0_1] 27 (0, 0)) (by (with_reducible repeat (first | refine blk_drewN ?_ _ | refine blk_drew ?_ | refine blk_alloc ?_ _)); exact BK766.out) hb); have n1_ := Aside0.mk (below_step (by repeat (first | (with_reducible first | exact HB.out | apply below_alloc | apply pw_below_drewN | apply below_drew1 | refine below_set ?_ GE766.out) | exact HB.out)) hb); clear BK766; clear HB; have BK766 := n0_; have HB := n1_; clear n0_ n1_; (try clear hb); (try clear hb2); (try clear hk); (try clear hi)))
  go_ret
  exact ⟨by first | rfl | (simp [errW_none, errW_some] <;> rfl) | (simp [*, errW_none, errW_some] <;> rfl), by repeat (first | (with_reducible first | exact HB.out | apply below_alloc | apply pw_below_drewN | apply below_drew1 | refine below_set ?_ GE766.out) | exact HB.out)⟩
end Go.Proofs.YthapikakneikbaaG
namespace Go.Proofs.YthapikakneikbaaG
open Go.RowKit Go.Proofs.YthapikakneikbaaW.PrintWords Go.Proofs.YthapikakneikbaaW.PrintLast Go.Proofs.YthapikakneikbaaW.PrintMore
attribute [local go_sem] max2_int min2_int max_two min_two max_three min_three max_four min_four   -- for this text's walks alone
set_option linter.unusedVariables false
set_option linter.unusedSimpArgs false
def center_Legit.l0 : Nat → List (List Int) → List Int → Int → Int → Option (Bool)
 | 0, _, _, _, _ => none
 | k + 1, x1, x12, x13, x14 => if x14 < x13 then (if 0 ≤ x14 then (if x14 < (x12.length : Int) then (if x14 < (x1.length : Int) then (if 0 < ((rd_L3 x1 x14).length : Int) then (if (rd (rd_L3 x1 x14) 0) = (rd x12 x14) then (center_Legit.l0 k x1 x12 x13 (wrap64 (x14 + 1))) else (some false)) else (none)) else (none)) else (none)) else (none)) else (some true)
def center_Legit.f (k : Nat) (l0_0 : List Int) (l0_1 : List (List (S60))) (l1 : List (List Int)) : Option (Bool) := (center_configuration.f k l0_0 l0_1 l1).bind fun t787 => (if t787 = true then ((shape_Heights.f k l0_0 l0_1).bind fun t788 => (center_Legit.l0 k l1 t788 (t788.length : Int) 0)) else (some false))
theorem center_Legit.mono_l : ∀ k, (∀ y0 y1 y2 y3, LeO (center_Legit.l0 k y0 y1 y2 y3) (center_Legit.l0 (k + 1) y0 y1 y2 y3))
 | 0 => fun _ _ _ _ r h => by simp [center_Legit.l0] at h
 | k + 1 => by
  have ih0 := center_Legit.mono_l k
  ·
   intro y0 y1 y2 y3
   unfold center_Legit.l0
   repeat' first
   | (with_reducible exact ih0 _ _ _ _)
   | (with_reducible exact center_configuration.mono _ _ _ _)
   | (with_reducible exact shape_Heights.mono _ _ _)
   | (with_reducible exact LeO.refl _)
   | (with_reducible exact LeO.none _)
   | (with_reducible refine LeO.ite ?_ ?_)
   | (with_reducible refine LeO.bind ?_ (fun _ => ?_))
   | exact ih0 _ _ _ _
   | exact center_configuration.mono _ _ _ _
   | exact shape_Heights.mono _ _ _
   | exact LeO.none _
   | refine LeO.ite ?_ ?_
   | refine LeO.bind ?_ (fun _ => ?_)
theorem center_Legit.mono : ∀ a0 a1 a2 k, LeO (center_Legit.f k a0 a1 a2) (center_Legit.f (k + 1) a0 a1 a2) := by
 intro a0 a1 a2 k
 have ih0 := center_Legit.mono_l k
 unfold center_Legit.f
 repeat' first
   | (with_reducible exact ih0 _ _ _ _)
   | (with_reducible exact center_configuration.mono _ _ _ _)
   | (with_reducible exact shape_Heights.mono _ _ _)
   | (with_reducible exact LeO.refl _)
   | (with_reducible exact LeO.none _)
   | (with_reducible refine LeO.ite ?_ ?_)
   | (with_reducible refine LeO.bind ?_ (fun _ => ?_))
   | exact ih0 _ _ _ _
   | exact center_configuration.mono _ _ _ _
   | exact shape_Heights.mono _ _ _
   | exact LeO.none _
   | refine LeO.ite ?_ ?_
   | refine LeO.bind ?_ (fun _ => ?_)
set_option maxHeartbeats 8000000 in
set_option maxRecDepth 100000 in
theorem center_Legit.calls (k : Nat) (A0_0 : Option Addr) (c0_0 : Nat) (l0_0 : List Int) (A0_1 : Option Addr) (c0_1 : Nat) (l0_1 : List (List (S60))) (A1 : Option Addr) (c1 : Nat) (l1 : List (List Int)) (r : Bool) (w : World) (hr0_0 : Kd.C (Kd.int .i64) w A0_0 l0_0.length l0_0) (hc0_0 : l0_0.length ≤ c0_0) (hr0_1 : Kd.C (Kd.slice 60 k60) w A0_1 l0_1.length l0_1) (hc0_1 : l0_1.length ≤ c0_1) (hr1 : Kd.C (Kd.slice 3 (Kd.int .i64)) w A1 l1.length l1) (hc1 : l1.length ≤ c1) (h : center_Legit.f k l0_0 l0_1 l1 = some r) :
  Calls Try.prog 61 #[.agg #[.slice A0_0 l0_0.length c0_0, .slice A0_1 l0_1.length c0_1], .slice A1 l1.length c1] w fun e w' => e = .returned (.bool r) ∧ Below w.heap.size w w' := by
 have hu27 := Try.underlying27
 have HR0_0 := Aside0.mk hr0_0
 have HC0_0 := Aside0.mk hc0_0
 clear hr0_0 hc0_0
 have HR0_1 := Aside0.mk hr0_1
 have HC0_1 := Aside0.mk hc0_1
 clear hr0_1 hc0_1
 have HR1 := Aside0.mk hr1
 have HC1 := Aside0.mk hc1
 clear hr1 hc1
 have HB := Aside0.mk (Below.refl w.heap.size w)
 have H : ((center_configuration.f k l0_0 l0_1 l1).bind fun t787 => (if t787 = true then ((shape_Heights.f k l0_0 l0_1).bind fun t788 => (center_Legit.l0 k l1 t788 (t788.length : Int) 0)) else (some false))) = some r := h
 clear h
 replace H := Option.bind_eq_some_iff.mp H
 obtain ⟨t787, A30, H⟩ := H
 replace H : (if t787 = true then ((shape_Heights.f k l0_0 l0_1).bind fun t788 => (center_Legit.l0 k l1 t788 (t788.length : Int) 0)) else (some false)) = some r := H
 have A3 := Aside0.mk A30
 clear A30
 by_cases c4 : t787 = true
 ·
  subst c4
  have H1 : ((shape_Heights.f k l0_0 l0_1).bind fun t788 => (center_Legit.l0 k l1 t788 (t788.length : Int) 0)) = some r := by rw [if_pos rfl] at H; exact H
  clear H
  have H := H1
  clear H1
  replace H := Option.bind_eq_some_iff.mp H
  obtain ⟨t788, A50, H⟩ := H
  replace H : (center_Legit.l0 k l1 t788 (t788.length : Int) 0) = some r := H
  have A5 := Aside0.mk A50
  clear A50
  have H' := Aside0.mk H
  clear H
  go_enter Try.func61, Try.ntmps61
  go_wp2_with (first | ((with_reducible refine gate_dst (N := 2) rfl ?_); refine box_event ?hg (N := 2) ?hd (cs := #[.slice A0_0 l0_0.length c0_0, .slice A0_1 l0_1.length c0_1]) (t := 27) ?hr ?_; (case hd => rfl); (case hg => rfl); (case hr => first | (go_simp; done) | (go_simp; rfl)); intro gb786 hg w6 hbox hb; have n0_ := Aside0.mk (below_step (by repeat (first | (with_reducible first | exact HB.out | apply below_alloc | apply pw_below_drewN | apply below_drew1) | exact HB.out)) hb); have n1_ := Aside0.mk (hbox); have n2_ := Aside0.mk ((by rw [hg]; exact (below_size (by repeat (first | (with_reducible first | exact HB.out | apply below_alloc | apply pw_below_drewN | apply below_drew1) | exact HB.out))) : w.heap.size ≤ gb786)); have n3_ := Aside0.mk ((by rw [hg]; exact (below_size (by repeat (first | (with_reducible first | exact HB.out | apply below_alloc | apply pw_below_drewN | apply below_drew1) | exact HB.out))) : w.heap.size ≤ gb786)); clear HB; have HB := n0_; have BK786 := n1_; have GW786 := n2_; have GE786 := n3_; clear n0_ n1_ n2_ n3_; clear hb hbox hg; have hcz7_0 : w6.cell? ⟨gb786, 0, none⟩ = some (.slice A0_0 l0_0.length c0_0) := (blk_cell BK786.out 0).trans rfl; have hcz7_1 : w6.cell? ⟨gb786, 1, none⟩ = some (.slice A0_1 l0_1.length c0_1) := (blk_cell BK786.out 1).trans rfl; have hfz7_0 := blk_frozen BK786.out 0; have hfz7_1 := blk_frozen BK786.out 1) | ((with_reducible refine gate_callee (f := 106) rfl ?_); refine goesL_ (some 9) rfl rfl Try.func106 (by kernel_rfl) rfl #[.agg #[.slice A0_0 l0_0.length c0_0, .slice A0_1 l0_1.length c0_1], .slice A1 l1.length c1] rfl (by (try simp only [List.map_toArray, List.map_cons, List.map_nil]); first | done | rfl | (simp only [List.length_drop, List.length_take]; rfl)) ?_; (with_reducible refine (center_configuration.calls k _ _ l0_0 _ _ l0_1 _ _ l1 true _ ?side1 ?side2 ?side3 ?side4 ?side5 ?side6 A3.out).mono ?_); (case side1 => repeat (first | exact (Kd.C_below HR0_0.out HB.out) | (with_reducible refine Kd.C_alloc ?_ _) | (with_reducible refine Kd.C_drewN ?_ _) | (with_reducible refine Kd.C_drew ?_))); (case side2 => exact HC0_0.out); (case side3 => repeat (first | exact (Kd.C_below HR0_1.out HB.out) | (with_reducible refine Kd.C_alloc ?_ _) | (with_reducible refine Kd.C_drewN ?_ _) | (with_reducible refine Kd.C_drew ?_))); (case side4 => exact HC0_1.out); (case side5 => repeat (first | exact (Kd.C_below HR1.out HB.out) | (with_reducible refine Kd.C_alloc ?_ _) | (with_reducible refine Kd.C_drewN ?_ _) | (with_reducible refine Kd.C_drew ?_))); (case side6 => exact HC1.out); rintro e w8 ⟨rfl, hb⟩; refine ⟨_, rfl, ?_⟩; have n0_ := Aside0.mk (blk_below (g := gb786) (o := .cells #[.slice A0_0 l0_0.length c0_0, .slice A0_1 l0_1.length c0_1] 27 (0, 0)) (by (with_reducible repeat (first | refine blk_drewN ?_ _ | refine blk_drew ?_ | refine blk_alloc ?_ _)); exact BK786.out) hb); have n1_ := Aside0.mk (below_step (by repeat (first | (with_reducible first | exact HB.out | apply below_alloc | apply pw_below_drewN | apply below_drew1 | refine below_set ?_ GE786.out) | exact HB.out)) hb); clear BK786; clear HB; have BK786 := n0_; have HB := n1_; clear n0_ n1_; (try clear hb); (try clear hb2); (try clear hk); (try clear hi); have hcz9_0 : w8.cell? ⟨gb786, 0, none⟩ = some (.slice A0_0 l0_0.length c0_0) := (blk_cell BK786.out 0).trans rfl; have hcz9_1 : w8.cell? ⟨gb786, 1, none⟩ = some (.slice A0_1 l0_1.length c0_1) := (blk_cell BK786.out 1).trans rfl; have hfz9_0 := blk_frozen BK786.out 0; have hfz9_1 := blk_frozen BK786.out 1) | ((with_reducible refine gate_callee (f := 107) rfl ?_); refine goesL_ (some 12) rfl rfl Try.func107 (by kernel_rfl) rfl #[.agg #[.slice A0_0 l0_0.length c0_0, .slice A0_1 l0_1.length c0_1]] rfl (by (try simp only [List.map_toArray, List.map_cons, List.map_nil]); first | done | rfl | (simp only [List.length_drop, List.length_take]; rfl)) ?_; (with_reducible refine (shape_Heights.calls k _ _ l0_0 _ _ l0_1 t788 _ ?side1 ?side2 ?side3 ?side4 A5.out).mono ?_); (case side1 => repeat (first | exact (Kd.C_below HR0_0.out HB.out) | (with_reducible refine Kd.C_alloc ?_ _) | (with_reducible refine Kd.C_drewN ?_ _) | (with_reducible refine Kd.C_drew ?_))); (case side2 => exact HC0_0.out); (case side3 => repeat (first | exact (Kd.C_below HR0_1.out HB.out) | (with_reducible refine Kd.C_alloc ?_ _) | (with_reducible refine Kd.C_drewN ?_ _) | (with_reducible refine Kd.C_drew ?_))); (case side4 => exact HC0_1.out); rintro e w10 ⟨v789, rfl, ho0, hb⟩; refine ⟨_, rfl, ?_⟩; have n0_ := Aside0.mk (Kd.R_lower ho0 (below_size (by repeat (first | (with_reducible first | exact HB.out | apply below_alloc | apply pw_below_drewN | apply below_drew1 | refine below_set ?_ GE786.out) | exact HB.out)))); have n1_ := Aside0.mk (blk_below (g := gb786) (o := .cells #[.slice A0_0 l0_0.length c0_0, .slice A0_1 l0_1.length c0_1] 27 (0, 0)) (by (with_reducible repeat (first | refine blk_drewN ?_ _ | refine blk_drew ?_ | refine blk_alloc ?_ _)); exact BK786.out) hb); have n2_ := Aside0.mk (below_step (by repeat (first | (with_reducible first | exact HB.out | apply below_alloc | apply pw_below_drewN | apply below_drew1 | refine below_set ?_ GE786.out) | exact HB.out)) hb); clear BK786; clear HB; have HO790 := n0_; have BK786 := n1_; have HB := n2_; clear n0_ n1_ n2_; (try clear hb); (try clear hb2); (try clear hk); (try clear hi); (try clear ho0); obtain ⟨Ao11, co11, eo11⟩ := Kd.R_slice HO790.out; subst eo11))
  go_loopg [14] k (fun kq v14 w' => ∃ (x14_1 : Int), v14 = .int .i64 x14_1 ∧ Aside0 (center_Legit.l0 kq l1 t788 (t788.length : Int) x14_1 = some r) ∧ Aside0 (kq ≤ k) ∧ Aside0 (Kd.R (Kd.int .i64) 3 w' w.heap.size (fun _ => True) (.slice Ao11 t788.length co11) t788) ∧ Aside0 (w'.heap[gb786]? = some (.cells #[(.slice A0_0 l0_0.length c0_0), (.slice A0_1 l0_1.length c0_1)] 27 (0, 0))) ∧ Aside0 (Below w.heap.size w w'))
  case atStart => exact ⟨(0), (by first | rfl | (simp; done) | (simp [*]; done)), H', ⟨Nat.le_refl _⟩, ⟨by (with_reducible repeat (first | apply Kd.R_alloc | apply Kd.R_drewN | apply Kd.R_drew)); exact HO790.out⟩, ⟨by (with_reducible repeat (first | refine blk_drewN ?_ _ | refine blk_drew ?_ | refine blk_alloc ?_ _)); exact BK786.out⟩, ⟨by repeat (first | (with_reducible first | exact HB.out | apply below_alloc | apply pw_below_drewN | apply below_drew1 | refine below_set ?_ GE786.out) | exact HB.out)⟩⟩
  case round =>
   clear H'
   try clear c1
   try clear p2
   try clear c4
   try clear c6
   try clear c10
   try clear hcz7_0
   try clear hcz7_1
   try clear hcz9_0
   try clear hcz9_1
   try clear hfz7_0
   try clear hfz7_1
   try clear hfz9_0
   try clear hfz9_1
   obtain ⟨x14_1, rfl, HA, HK1, HO_12, BK786, HB⟩ := hrel
   cases gk with
   | zero => exact absurd HA.out (by simp [center_Legit.l0])
   | succ k1 =>
    have H := HA.out
    clear HA
    simp only [center_Legit.l0] at H
    by_cases c12 : x14_1 < (t788.length : Int)
    ·
     rw [if_pos c12] at H
     have c12b0 : decide (x14_1 < (t788.length : Int)) = true := decide_eq_true c12
     clear c12
     by_cases c13 : 0 ≤ x14_1
     ·
      rw [if_pos c13] at H
      have c13b0 : decide (0 ≤ x14_1) = true := decide_eq_true c13
      clear c13
      by_cases c14 : x14_1 < (t788.length : Int)
      ·
       rw [if_pos c14] at H
       have c14b0 : decide (x14_1 < (t788.length : Int)) = true := decide_eq_true c14
       clear c14
       by_cases c15 : x14_1 < (l1.length : Int)
       ·
        rw [if_pos c15] at H
        have c15b0 : decide (x14_1 < (l1.length : Int)) = true := decide_eq_true c15
        clear c15
        by_cases c16 : 0 < ((rd_L3 l1 x14_1).length : Int)
        ·
         rw [if_pos c16] at H
         have c16b0 : decide (0 < ((rd_L3 l1 x14_1).length : Int)) = true := decide_eq_true c16
         have c16b1 : decide (0 < (rd_L3 l1 x14_1).length) = true := decide_eq_true (by omega)
         clear c16
         by_cases c17 : (rd (rd_L3 l1 x14_1) 0) = (rd t788 x14_1)
         ·
          rw [if_pos c17] at H
          have c17b0 : ((rd (rd_L3 l1 x14_1) 0) == (rd t788 x14_1)) = true := beq_iff_eq.mpr c17
          have c17b1 : ((rd (rd_L3 l1 x14_1) 0) != (rd t788 x14_1)) = false := bne_eq_false_iff_eq.mpr c17
          clear c17
          have H' := Aside0.mk H
          clear H
          have p791 : 0 ≤ (x14_1 : Int) := of_decide_eq_true (by first | (with_reducible assumption) | assumption)
          have q791 : x14_1 < (t788.length : Int) := of_decide_eq_true (by first | (with_reducible assumption) | assumption)
          obtain ⟨ad791, e791, hx791_0⟩ := Kd.at_int (Kd.R_reads' HO_12.out).2.2 x14_1 p791 q791
          cases e791
          replace p791 := eq_true p791
          replace q791 := eq_true q791
          have p792 : 0 ≤ (x14_1 : Int) := of_decide_eq_true (by first | (with_reducible assumption) | assumption)
          have q792 : x14_1 < (l1.length : Int) := of_decide_eq_true (by first | (with_reducible assumption) | assumption)
          obtain ⟨ad792, A792_0, c792_0, e792, hx792_0, hl792_0, hi792_0⟩ := at_L3 HR1.out x14_1 p792 q792
          cases e792
          replace hx792_0 := (HB.out.cell (World.block_lt_of_cell? w _ hx792_0)).trans hx792_0
          have HR792_0 := Aside0.mk hi792_0
          have HC792_0 := Aside0.mk hl792_0
          clear hi792_0 hl792_0
          replace p792 := eq_true p792
          replace q792 := eq_true q792
          have p793 : 0 ≤ (0 : Int) := (by omega)
          have q793 : 0 < ((rd_L3 l1 x14_1).length : Int) := of_decide_eq_true (by first | (with_reducible assumption) | assumption)
          obtain ⟨ad793, e793, hx793_0⟩ := Kd.at_int HR792_0.out 0 p793 q793
          cases e793
          have qi793 : (0 < (rd_L3 l1 x14_1).length) = True := eq_true (by omega)
          (try rw [show ((0 : Int)).toNat = 0 from rfl] at hx793_0)
          (try rw [Addr.add_zero'] at hx793_0)
          replace hx793_0 := (HB.out.cell (World.block_lt_of_cell? w _ hx793_0)).trans hx793_0
          replace p793 := eq_true p793
          replace q793 := eq_true q793
          go_wp2
          go_roundg k1
          case measure => have := HK1.out; omega
          case rel => exact ⟨(wrap64 (x14_1 + 1)), (by first | rfl | (simp; done) | (simp [*]; done)), H', ⟨by have := HK1.out; omega⟩, ⟨by (with_reducible repeat (first | apply Kd.R_alloc | apply Kd.R_drewN | apply Kd.R_drew)); exact HO_12.out⟩, ⟨by (with_reducible repeat (first | refine blk_drewN ?_ _ | refine blk_drew ?_ | refine blk_alloc ?_ _)); exact BK786.out⟩, ⟨by repeat (first | (with_reducible first | exact HB.out | apply below_alloc | apply pw_below_drewN | apply below_drew1 | refine below_set ?_ GE786.out) | exact HB.out)⟩⟩
         ·
          rw [if_neg c17] at H
          have c17b0 : ((rd (rd_L3 l1 x14_1) 0) == (rd t788 x14_1)) = false := beq_eq_false_iff_ne.mpr c17
          have c17b1 : ((rd (rd_L3 l1 x14_1) 0) != (rd t788 x14_1)) = true := bne_iff_ne.mpr c17
          obtain rfl := Option.some.inj H
          have p791 : 0 ≤ (x14_1 : Int) := of_decide_eq_true (by first | (with_reducible assumption) | assumption)
          have q791 : x14_1 < (t788.length : Int) := of_decide_eq_true (by first | (with_reducible assumption) | assumption)
          obtain ⟨ad791, e791, hx791_0⟩ := Kd.at_int (Kd.R_reads' HO_12.out).2.2 x14_1 p791 q791
          cases e791
          replace p791 := eq_true p791
          replace q791 := eq_true q791
          have p792 : 0 ≤ (x14_1 : Int) := of_decide_eq_true (by first | (with_reducible assumption) | assumption)
          have q792 : x14_1 < (l1.length : Int) := of_decide_eq_true (by first | (with_reducible assumption) | assumption)
          obtain ⟨ad792, A792_0, c792_0, e792, hx792_0, hl792_0, hi792_0⟩ := at_L3 HR1.out x14_1 p792 q792
          cases e792
          replace hx792_0 := (HB.out.cell (World.block_lt_of_cell? w _ hx792_0)).trans hx792_0
          have HR792_0 := Aside0.mk hi792_0
          have HC792_0 := Aside0.mk hl792_0
          clear hi792_0 hl792_0
          replace p792 := eq_true p792
          replace q792 := eq_true q792
          have p793 : 0 ≤ (0 : Int) := (by omega)
          have q793 : 0 < ((rd_L3 l1 x14_1).length : Int) := of_decide_eq_true (by first | (with_reducible assumption) | assumption)
          obtain ⟨ad793, e793, hx793_0⟩ := Kd.at_int HR792_0.out 0 p793 q793
          cases e793
          have qi793 : (0 < (rd_L3 l1 x14_1).length) = True := eq_true (by omega)
          (try rw [show ((0 : Int)).toNat = 0 from rfl] at hx793_0)
          (try rw [Addr.add_zero'] at hx793_0)
          replace hx793_0 := (HB.out.cell (World.block_lt_of_cell? w _ hx793_0)).trans hx793_0
          replace p793 := eq_true p793
          replace q793 := eq_true q793
          go_wp2
          go_ret
          exact ⟨by first | rfl | (simp [errW_none, errW_some] <;> rfl) | (simp [*, errW_none, errW_some] <;> rfl), by repeat (first | (with_reducible first | exact HB.out | apply below_alloc | apply pw_below_drewN | apply below_drew1 | refine below_set ?_ GE786.out) | exact HB.out)⟩
        ·
         rw [if_neg c16] at H
         exact absurd H (by simp)
       ·
        rw [if_neg c15] at H
        exact absurd H (by simp)
      ·
       rw [if_neg c14] at H
       exact absurd H (by simp)
     ·
      rw [if_neg c13] at H
      exact absurd H (by simp)
    ·
     rw [if_neg c12] at H
     have c12b0 : decide (x14_1 < (t788.length : Int)) = false := decide_eq_false c12
     clear c12
     obtain rfl := Option.some.inj H
     go_wp2
     go_ret
     exact ⟨by first | rfl | (simp [errW_none, errW_some] <;> rfl) | (simp [*, errW_none, errW_some] <;> rfl), by repeat (first | (with_reducible first | exact HB.out | apply below_alloc | apply pw_below_drewN | apply below_drew1 | refine below_set ?_ GE786.out) | exact HB.out)⟩
 ·
  replace c4 := Bool.eq_false_iff.mpr c4
  subst c4
  have H1 : (some false) = some r := by rw [if_neg (show ¬ (false = true) by decide)] at H; exact H
  clear H
  have H := H1
  clear H1
  obtain rfl := Option.some.inj H
  go_enter Try.func61, Try.ntmps61
  go_wp2_with (first | ((with_reducible refine gate_dst (N := 2) rfl ?_); refine box_event ?hg (N := 2) ?hd (cs := #[.slice A0_0 l0_0.length c0_0, .slice A0_1 l0_1.length c0_1]) (t := 27) ?hr ?_; (case hd => rfl); (case hg => rfl); (case hr => first | (go_simp; done) | (go_simp; rfl)); intro gb786 hg w18 hbox hb; have n0_ := Aside0.mk (below_step (by repeat (first | (with_reducible first | exact HB.out | apply below_alloc | apply pw_below_drewN | apply below_drew1) | exact HB.out)) hb); have n1_ := Aside0.mk (hbox); have n2_ := Aside0.mk ((by rw [hg]; exact (below_size (by repeat (first | (with_reducible first | exact HB.out | apply below_alloc | apply pw_below_drewN | apply below_drew1) | exact HB.out))) : w.heap.size ≤ gb786)); have n3_ := Aside0.mk ((by rw [hg]; exact (below_size (by repeat (first | (with_reducible first | exact HB.out | apply below_alloc | apply pw_below_drewN | apply below_drew1) | exact HB.out))) : w.heap.size ≤ gb786)); clear HB; have HB := n0_; have BK786 := n1_; have GW786 := n2_; have GE786 := n3_; clear n0_ n1_ n2_ n3_; clear hb hbox hg; have hcz19_0 : w18.cell? ⟨gb786, 0, none⟩ = some (.slice A0_0 l0_0.length c0_0) := (blk_cell BK786.out 0).trans rfl; have hcz19_1 : w18.cell? ⟨gb786, 1, none⟩ = some (.slice A0_1 l0_1.length c0_1) := (blk_cell BK786.out 1).trans rfl; have hfz19_0 := blk_frozen BK786.out 0; have hfz19_1 := blk_frozen BK786.out 1) | ((with_reducible refine gate_callee (f := 106) rfl ?_); refine goesL_ (some 9) rfl rfl Try.func106 (by kernel_rfl) rfl #[.agg #[.slice A0_0 l0_0.length c0_0, .slice A0_1 l0_1.length c0_1], .slice A1 l1.length c1] rfl (by (try simp only [List.map_toArray, List.map_cons, List.map_nil]); first | done | rfl | (simp only [List.length_drop, List.length_take]; rfl)) ?_; (with_reducible refine (center_configuration.calls k _ _ l0_0 _ _ l0_1 _ _ l1 false _ ?side1 ?side2 ?side3 ?side4 ?side5 ?side6 A3.out).mono ?_); (case side1 => repeat (first | exact (Kd.C_below HR0_0.out HB.out) | (with_reducible refine Kd.C_alloc ?_ _) | (with_reducible refine Kd.C_drewN ?_ _) | (with_reducible refine Kd.C_drew ?_))); (case side2 => exact HC0_0.out); (case side3 => repeat (first | exact (Kd.C_below HR0_1.out HB.out) | (with_reducible refine Kd.C_alloc ?_ _) | (with_reducible refine Kd.C_drewN ?_ _) | (with_reducible refine Kd.C_drew ?_))); (case side4 => exact HC0_1.out); (case side5 => repeat (first | exact (Kd.C_below HR1.out HB.out) | (with_reducible refine Kd.C_alloc ?_ _) | (with_reducible refine Kd.C_drewN ?_ _) | (with_reducible refine Kd.C_drew ?_))); (case side6 => exact HC1.out); rintro e w20 ⟨rfl, hb⟩; refine ⟨_, rfl, ?_⟩; have n0_ := Aside0.mk (blk_below (g := gb786) (o := .cells #[.slice A0_0 l0_0.length c0_0, .slice A0_1 l0_1.length c0_1] 27 (0, 0)) (by (with_reducible repeat (first | refine blk_drewN ?_ _ | refine blk_drew ?_ | refine blk_alloc ?_ _)); exact BK786.out) hb); have n1_ := Aside0.mk (below_step (by repeat (first | (with_reducible first | exact HB.out | apply below_alloc | apply pw_below_drewN | apply below_drew1 | refine below_set ?_ GE786.out) | exact HB.out)) hb); clear BK786; clear HB; have BK786 := n0_; have HB := n1_; clear n0_ n1_; (try clear hb); (try clear hb2); (try clear hk); (try clear hi)))
  go_ret
  exact ⟨by first | rfl | (simp [errW_none, errW_some] <;> rfl) | (simp [*, errW_none, errW_some] <;> rfl), by repeat (first | (with_reducible first | exact HB.out | apply below_alloc | apply pw_below_drewN | apply below_drew1 | refine below_set ?_ GE786.out) | exact HB.out)⟩
end Go.Proofs.YthapikakneikbaaG
namespace Go.Proofs.YthapikakneikbaaG
open Go.RowKit Go.Proofs.YthapikakneikbaaW.PrintWords Go.Proofs.YthapikakneikbaaW.PrintLast Go.Proofs.YthapikakneikbaaW.PrintMore
attribute [local go_sem] max2_int min2_int max_two min_two max_three min_three max_four min_four   -- for this text's walks alone
set_option linter.unusedVariables false
set_option linter.unusedSimpArgs false
def graph_Diameter.l0 : Nat → Int → Int → Int → List Int → List (List (S60)) → Option (Int)
 | 0, _, _, _, _, _ => none
 | k + 1, x3, x7, x8, x795000, x795001 => if x8 < x7 then ((graph_Eccentricity.f k x795000 x795001 x8).bind fun t795 => (if (mx x3 t795) < 0 then (some (mx x3 t795)) else (graph_Diameter.l0 k (mx x3 t795) x7 (wrap64 (x8 + 1)) x795000 x795001))) else (some x3)
def graph_Diameter.f (k : Nat) (l0_0 : List Int) (l0_1 : List (List (S60))) : Option (Int) := graph_Diameter.l0 k (-1) (l0_1.length : Int) 0 l0_0 l0_1
theorem graph_Diameter.mono_l : ∀ k, (∀ y0 y1 y2 y3 y4, LeO (graph_Diameter.l0 k y0 y1 y2 y3 y4) (graph_Diameter.l0 (k + 1) y0 y1 y2 y3 y4))
 | 0 => fun _ _ _ _ _ r h => by simp [graph_Diameter.l0] at h
 | k + 1 => by
  have ih0 := graph_Diameter.mono_l k
  ·
   intro y0 y1 y2 y3 y4
   unfold graph_Diameter.l0
   repeat' first
   | (with_reducible exact ih0 _ _ _ _ _)
   | (with_reducible exact graph_Eccentricity.mono _ _ _ _)
   | (with_reducible exact LeO.refl _)
   | (with_reducible exact LeO.none _)
   | (with_reducible refine LeO.ite ?_ ?_)
   | (with_reducible refine LeO.bind ?_ (fun _ => ?_))
   | exact ih0 _ _ _ _ _
   | exact graph_Eccentricity.mono _ _ _ _
   | exact LeO.none _
   | refine LeO.ite ?_ ?_
   | refine LeO.bind ?_ (fun _ => ?_)
theorem graph_Diameter.mono : ∀ a0 a1 k, LeO (graph_Diameter.f k a0 a1) (graph_Diameter.f (k + 1) a0 a1) := by
 intro a0 a1 k
 have ih0 := graph_Diameter.mono_l k
 unfold graph_Diameter.f
 repeat' first
   | (with_reducible exact ih0 _ _ _ _ _)
   | (with_reducible exact graph_Eccentricity.mono _ _ _ _)
   | (with_reducible exact LeO.refl _)
   | (with_reducible exact LeO.none _)
   | (with_reducible refine LeO.ite ?_ ?_)
   | (with_reducible refine LeO.bind ?_ (fun _ => ?_))
   | exact ih0 _ _ _ _ _
   | exact graph_Eccentricity.mono _ _ _ _
   | exact LeO.none _
   | refine LeO.ite ?_ ?_
   | refine LeO.bind ?_ (fun _ => ?_)
set_option maxHeartbeats 8000000 in
set_option maxRecDepth 100000 in
theorem graph_Diameter.calls (k : Nat) (A0_0 : Option Addr) (c0_0 : Nat) (l0_0 : List Int) (A0_1 : Option Addr) (c0_1 : Nat) (l0_1 : List (List (S60))) (r : Int) (w : World) (hr0_0 : Kd.C (Kd.int .i64) w A0_0 l0_0.length l0_0) (hc0_0 : l0_0.length ≤ c0_0) (hr0_1 : Kd.C (Kd.slice 60 k60) w A0_1 l0_1.length l0_1) (hc0_1 : l0_1.length ≤ c0_1) (h : graph_Diameter.f k l0_0 l0_1 = some r) :
  Calls Try.prog 110 #[.agg #[.slice A0_0 l0_0.length c0_0, .slice A0_1 l0_1.length c0_1]] w fun e w' => e = .returned (.int .i64 r) ∧ Below w.heap.size w w' := by
 have hu27 := Try.underlying27
 have HR0_0 := Aside0.mk hr0_0
 have HC0_0 := Aside0.mk hc0_0
 clear hr0_0 hc0_0
 have HR0_1 := Aside0.mk hr0_1
 have HC0_1 := Aside0.mk hc0_1
 clear hr0_1 hc0_1
 have HB := Aside0.mk (Below.refl w.heap.size w)
 have H : (graph_Diameter.l0 k (-1) (l0_1.length : Int) 0 l0_0 l0_1) = some r := h
 clear h
 have H' := Aside0.mk H
 clear H
 go_enter Try.func110, Try.ntmps110
 go_wp2_with (first | ((with_reducible refine gate_dst (N := 1) rfl ?_); refine box_event ?hg (N := 1) ?hd (cs := #[.slice A0_0 l0_0.length c0_0, .slice A0_1 l0_1.length c0_1]) (t := 27) ?hr ?_; (case hd => rfl); (case hg => rfl); (case hr => first | (go_simp; done) | (go_simp; rfl)); intro gb794 hg w2 hbox hb; have n0_ := Aside0.mk (below_step (by repeat (first | (with_reducible first | exact HB.out | apply below_alloc | apply pw_below_drewN | apply below_drew1) | exact HB.out)) hb); have n1_ := Aside0.mk (hbox); have n2_ := Aside0.mk ((by rw [hg]; exact (below_size (by repeat (first | (with_reducible first | exact HB.out | apply below_alloc | apply pw_below_drewN | apply below_drew1) | exact HB.out))) : w.heap.size ≤ gb794)); have n3_ := Aside0.mk ((by rw [hg]; exact (below_size (by repeat (first | (with_reducible first | exact HB.out | apply below_alloc | apply pw_below_drewN | apply below_drew1) | exact HB.out))) : w.heap.size ≤ gb794)); clear HB; have HB := n0_; have BK794 := n1_; have GW794 := n2_; have GE794 := n3_; clear n0_ n1_ n2_ n3_; clear hb hbox hg; have hcz3_0 : w2.cell? ⟨gb794, 0, none⟩ = some (.slice A0_0 l0_0.length c0_0) := (blk_cell BK794.out 0).trans rfl; have hcz3_1 : w2.cell? ⟨gb794, 1, none⟩ = some (.slice A0_1 l0_1.length c0_1) := (blk_cell BK794.out 1).trans rfl; have hfz3_0 := blk_frozen BK794.out 0; have hfz3_1 := blk_frozen BK794.out 1))
 go_loopg [3, 8] k (fun kq v3 v8 w' => ∃ (x3_1 : Int) (x8_1 : Int), v3 = .int .i64 x3_1 ∧ v8 = .int .i64 x8_1 ∧ Aside0 (graph_Diameter.l0 kq x3_1 (l0_1.length : Int) x8_1 l0_0 l0_1 = some r) ∧ Aside0 (kq ≤ k) ∧ Aside0 (w'.heap[gb794]? = some (.cells #[(.slice A0_0 l0_0.length c0_0), (.slice A0_1 l0_1.length c0_1)] 27 (0, 0))) ∧ Aside0 (Below w.heap.size w w'))
 case atStart => exact ⟨((-1)), (0), (by first | rfl | (simp; done) | (simp [*]; done)), (by first | rfl | (simp; done) | (simp [*]; done)), H', ⟨Nat.le_refl _⟩, ⟨by (with_reducible repeat (first | refine blk_drewN ?_ _ | refine blk_drew ?_ | refine blk_alloc ?_ _)); exact BK794.out⟩, ⟨by repeat (first | (with_reducible first | exact HB.out | apply below_alloc | apply pw_below_drewN | apply below_drew1 | refine below_set ?_ GE794.out) | exact HB.out)⟩⟩
 case round =>
  clear H'
  try clear c1
  try clear p2
  try clear hcz3_0
  try clear hcz3_1
  try clear hfz3_0
  try clear hfz3_1
  obtain ⟨x3_1, x8_1, rfl, rfl, HA, HK1, BK794, HB⟩ := hrel
  cases gk with
  | zero => exact absurd HA.out (by simp [graph_Diameter.l0])
  | succ k1 =>
   have H := HA.out
   clear HA
   simp only [graph_Diameter.l0] at H
   by_cases c4 : x8_1 < (l0_1.length : Int)
   ·
    rw [if_pos c4] at H
    have c4b0 : decide (x8_1 < (l0_1.length : Int)) = true := decide_eq_true c4
    clear c4
    replace H := Option.bind_eq_some_iff.mp H
    obtain ⟨t795, A50, H⟩ := H
    replace H : (if (mx x3_1 t795) < 0 then (some (mx x3_1 t795)) else (graph_Diameter.l0 k1 (mx x3_1 t795) (l0_1.length : Int) (wrap64 (x8_1 + 1)) l0_0 l0_1)) = some r := H
    have A5 := Aside0.mk A50
    clear A50
    obtain ⟨ji6, hji6⟩ : ∃ j_ : Int, (mx x3_1 t795) = j_ := ⟨_, rfl⟩
    replace H : (if (ji6) < 0 then (some ji6) else (graph_Diameter.l0 k1 ji6 (l0_1.length : Int) (wrap64 (x8_1 + 1)) l0_0 l0_1)) = some r := by first | (rw [hji6] at H; exact H) | (simp only [hji6] at H ⊢; exact H)
    (try rw [hji6] at A5)
    have hji6_ : (if x3_1 < t795 then t795 else x3_1) = ji6 := hji6
    by_cases c7 : (ji6) < 0
    ·
     rw [if_pos c7] at H
     have c7b0 : decide ((ji6) < 0) = true := decide_eq_true c7
     clear c7
     obtain rfl := Option.some.inj H
     have hcz8_0 : wr.cell? ⟨gb794, 0, none⟩ = some (.slice A0_0 l0_0.length c0_0) := (blk_cell BK794.out 0).trans rfl
     have hcz8_1 : wr.cell? ⟨gb794, 1, none⟩ = some (.slice A0_1 l0_1.length c0_1) := (blk_cell BK794.out 1).trans rfl
     have hfz8_0 := blk_frozen BK794.out 0
     have hfz8_1 := blk_frozen BK794.out 1
     go_wp2_with (first | ((with_reducible refine gate_callee (f := 94) rfl ?_); refine goesL_ (some 14) rfl rfl Try.func94 (by kernel_rfl) rfl #[.agg #[.slice A0_0 l0_0.length c0_0, .slice A0_1 l0_1.length c0_1], .int .i64 x8_1] rfl (by (try simp only [List.map_toArray, List.map_cons, List.map_nil]); first | done | rfl | (simp only [List.length_drop, List.length_take]; rfl)) ?_; (with_reducible refine (graph_Eccentricity.calls k1 _ _ l0_0 _ _ l0_1 x8_1 t795 _ ?side1 ?side2 ?side3 ?side4 A5.out).mono ?_); (case side1 => repeat (first | exact (Kd.C_below HR0_0.out HB.out) | (with_reducible refine Kd.C_alloc ?_ _) | (with_reducible refine Kd.C_drewN ?_ _) | (with_reducible refine Kd.C_drew ?_))); (case side2 => exact HC0_0.out); (case side3 => repeat (first | exact (Kd.C_below HR0_1.out HB.out) | (with_reducible refine Kd.C_alloc ?_ _) | (with_reducible refine Kd.C_drewN ?_ _) | (with_reducible refine Kd.C_drew ?_))); (case side4 => exact HC0_1.out); rintro e w9 ⟨rfl, hb⟩; refine ⟨_, rfl, ?_⟩; have n0_ := Aside0.mk (blk_below (g := gb794) (o := .cells #[.slice A0_0 l0_0.length c0_0, .slice A0_1 l0_1.length c0_1] 27 (0, 0)) (by (with_reducible repeat (first | refine blk_drewN ?_ _ | refine blk_drew ?_ | refine blk_alloc ?_ _)); exact BK794.out) hb); have n1_ := Aside0.mk (below_step (by repeat (first | (with_reducible first | exact HB.out | apply below_alloc | apply pw_below_drewN | apply below_drew1 | refine below_set ?_ GE794.out) | exact HB.out)) hb); clear BK794; clear HB; have BK794 := n0_; have HB := n1_; clear n0_ n1_; (try clear hb); (try clear hb2); (try clear hk); (try clear hi)))
     go_ret
     exact ⟨by first | rfl | (simp [errW_none, errW_some] <;> rfl) | (simp only [← hji6]; first | rfl | (simp [errW_none, errW_some] <;> rfl)) | (simp [*, errW_none, errW_some] <;> rfl), by repeat (first | (with_reducible first | exact HB.out | apply below_alloc | apply pw_below_drewN | apply below_drew1 | refine below_set ?_ GE794.out) | exact HB.out)⟩
    ·
     rw [if_neg c7] at H
     have c7b0 : decide ((ji6) < 0) = false := decide_eq_false c7
     clear c7
     have H' := Aside0.mk H
     clear H
     have hcz10_0 : wr.cell? ⟨gb794, 0, none⟩ = some (.slice A0_0 l0_0.length c0_0) := (blk_cell BK794.out 0).trans rfl
     have hcz10_1 : wr.cell? ⟨gb794, 1, none⟩ = some (.slice A0_1 l0_1.length c0_1) := (blk_cell BK794.out 1).trans rfl
     have hfz10_0 := blk_frozen BK794.out 0
     have hfz10_1 := blk_frozen BK794.out 1
     go_wp2_with (first | ((with_reducible refine gate_callee (f := 94) rfl ?_); refine goesL_ (some 14) rfl rfl Try.func94 (by kernel_rfl) rfl #[.agg #[.slice A0_0 l0_0.length c0_0, .slice A0_1 l0_1.length c0_1], .int .i64 x8_1] rfl (by (try simp only [List.map_toArray, List.map_cons, List.map_nil]); first | done | rfl | (simp only [List.length_drop, List.length_take]; rfl)) ?_; (with_reducible refine (graph_Eccentricity.calls k1 _ _ l0_0 _ _ l0_1 x8_1 t795 _ ?side1 ?side2 ?side3 ?side4 A5.out).mono ?_); (case side1 => repeat (first | exact (Kd.C_below HR0_0.out HB.out) | (with_reducible refine Kd.C_alloc ?_ _) | (with_reducible refine Kd.C_drewN ?_ _) | (with_reducible refine Kd.C_drew ?_))); (case side2 => exact HC0_0.out); (case side3 => repeat (first | exact (Kd.C_below HR0_1.out HB.out) | (with_reducible refine Kd.C_alloc ?_ _) | (with_reducible refine Kd.C_drewN ?_ _) | (with_reducible refine Kd.C_drew ?_))); (case side4 => exact HC0_1.out); rintro e w11 ⟨rfl, hb⟩; refine ⟨_, rfl, ?_⟩; have n0_ := Aside0.mk (blk_below (g := gb794) (o := .cells #[.slice A0_0 l0_0.length c0_0, .slice A0_1 l0_1.length c0_1] 27 (0, 0)) (by (with_reducible repeat (first | refine blk_drewN ?_ _ | refine blk_drew ?_ | refine blk_alloc ?_ _)); exact BK794.out) hb); have n1_ := Aside0.mk (below_step (by repeat (first | (with_reducible first | exact HB.out | apply below_alloc | apply pw_below_drewN | apply below_drew1 | refine below_set ?_ GE794.out) | exact HB.out)) hb); clear BK794; clear HB; have BK794 := n0_; have HB := n1_; clear n0_ n1_; (try clear hb); (try clear hb2); (try clear hk); (try clear hi)))
     go_roundg k1
     case measure => have := HK1.out; omega
     case rel => exact ⟨(ji6), (wrap64 (x8_1 + 1)), (by first | rfl | (simp; done) | (simp only [← hji6] <;> (first | rfl | simp)) | (simp [*]; done)), (by first | rfl | (simp; done) | (simp [*]; done)), H', ⟨by have := HK1.out; omega⟩, ⟨by (with_reducible repeat (first | refine blk_drewN ?_ _ | refine blk_drew ?_ | refine blk_alloc ?_ _)); exact BK794.out⟩, ⟨by repeat (first | (with_reducible first | exact HB.out | apply below_alloc | apply pw_below_drewN | apply below_drew1 | refine below_set ?_ GE794.out) | exact HB.out)⟩⟩
   ·
    rw [if_neg c4] at H
    have c4b0 : decide (x8_1 < (l0_1.length : Int)) = false := decide_eq_false c4
    clear c4
    obtain rfl := Option.some.inj H
    go_wp2
    go_ret
    exact ⟨by first | rfl | (simp [errW_none, errW_some] <;> rfl) | (simp [*, errW_none, errW_some] <;> rfl), by repeat (first | (with_reducible first | exact HB.out | apply below_alloc | apply pw_below_drewN | apply below_drew1 | refine below_set ?_ GE794.out) | exact HB.out)⟩
end Go.Proofs.YthapikakneikbaaG
namespace Go.Proofs.YthapikakneikbaaG
open Go.RowKit Go.Proofs.YthapikakneikbaaW.PrintWords Go.Proofs.YthapikakneikbaaW.PrintLast Go.Proofs.YthapikakneikbaaW.PrintMore
attribute [local go_sem] max2_int min2_int max_two min_two max_three min_three max_four min_four   -- for this text's walks alone
set_option linter.unusedVariables false
set_option linter.unusedSimpArgs false
def center_Claim.f (k : Nat) (l0_0 : List Int) (l0_1 : List (List (S60))) : Option (Int × Bool × Bool × Int × Int) := (center_Fit.f k l0_0 l0_1).bind fun t798 => (if t798 = true then ((graph_Diameter.f k l0_0 l0_1).bind fun t799 => (some (3, false, true, wrap64 ((wrap64 (Int.tdiv t799 2)) + 1), (-1)))) else (some (0, false, false, 0, 0)))
theorem center_Claim.mono : ∀ a0 a1 k, LeO (center_Claim.f k a0 a1) (center_Claim.f (k + 1) a0 a1) := by
 intro a0 a1 k
 unfold center_Claim.f
 repeat' first
   | (with_reducible exact center_Fit.mono _ _ _)
   | (with_reducible exact graph_Diameter.mono _ _ _)
   | (with_reducible exact LeO.refl _)
   | (with_reducible exact LeO.none _)
   | (with_reducible refine LeO.ite ?_ ?_)
   | (with_reducible refine LeO.bind ?_ (fun _ => ?_))
   | exact center_Fit.mono _ _ _
   | exact graph_Diameter.mono _ _ _
   | exact LeO.none _
   | refine LeO.ite ?_ ?_
   | refine LeO.bind ?_ (fun _ => ?_)
set_option maxHeartbeats 8000000 in
set_option maxRecDepth 100000 in
theorem center_Claim.calls (k : Nat) (A0_0 : Option Addr) (c0_0 : Nat) (l0_0 : List Int) (A0_1 : Option Addr) (c0_1 : Nat) (l0_1 : List (List (S60))) (r1 : Int) (r2 : Bool) (r3 : Bool) (r4 : Int) (r5 : Int) (w : World) (hr0_0 : Kd.C (Kd.int .i64) w A0_0 l0_0.length l0_0) (hc0_0 : l0_0.length ≤ c0_0) (hr0_1 : Kd.C (Kd.slice 60 k60) w A0_1 l0_1.length l0_1) (hc0_1 : l0_1.length ≤ c0_1) (h : center_Claim.f k l0_0 l0_1 = some (r1, r2, r3, r4, r5)) :
  Calls Try.prog 63 #[.agg #[.slice A0_0 l0_0.length c0_0, .slice A0_1 l0_1.length c0_1]] w fun e w' => e = .returned (.agg #[.int .i64 r1, .bool r2, .bool r3, .int .i64 r4, .int .i64 r5]) ∧ Below w.heap.size w w' := by
 have hu27 := Try.underlying27
 have hu44 := Try.underlying44
 have HR0_0 := Aside0.mk hr0_0
 have HC0_0 := Aside0.mk hc0_0
 clear hr0_0 hc0_0
 have HR0_1 := Aside0.mk hr0_1
 have HC0_1 := Aside0.mk hc0_1
 clear hr0_1 hc0_1
 have HB := Aside0.mk (Below.refl w.heap.size w)
 have H : ((center_Fit.f k l0_0 l0_1).bind fun t798 => (if t798 = true then ((graph_Diameter.f k l0_0 l0_1).bind fun t799 => (some (3, false, true, wrap64 ((wrap64 (Int.tdiv t799 2)) + 1), (-1)))) else (some (0, false, false, 0, 0)))) = some (r1, r2, r3, r4, r5) := h
 clear h
 replace H := Option.bind_eq_some_iff.mp H
 obtain ⟨t798, A20, H⟩ := H
 replace H : (if t798 = true then ((graph_Diameter.f k l0_0 l0_1).bind fun t799 => (some (3, false, true, wrap64 ((wrap64 (Int.tdiv t799 2)) + 1), (-1)))) else (some (0, false, false, 0, 0))) = some (r1, r2, r3, r4, r5) := H
 have A2 := Aside0.mk A20
 clear A20
 by_cases c3 : t798 = true
 ·
  subst c3
  have H1 : ((graph_Diameter.f k l0_0 l0_1).bind fun t799 => (some (3, false, true, wrap64 ((wrap64 (Int.tdiv t799 2)) + 1), (-1)))) = some (r1, r2, r3, r4, r5) := by rw [if_pos rfl] at H; exact H
  clear H
  have H := H1
  clear H1
  replace H := Option.bind_eq_some_iff.mp H
  obtain ⟨t799, A40, H⟩ := H
  replace H : (some (3, false, true, wrap64 ((wrap64 (Int.tdiv t799 2)) + 1), (-1))) = some (r1, r2, r3, r4, r5) := H
  have A4 := Aside0.mk A40
  clear A40
  simp only [Option.some.injEq, Prod.mk.injEq] at H
  obtain ⟨rfl, rfl, rfl, rfl, rfl⟩ := H
  go_enter Try.func63, Try.ntmps63
  go_wp2_with (first | ((with_reducible refine gate_dst (N := 1) rfl ?_); refine box_event ?hg (N := 1) ?hd (cs := #[.slice A0_0 l0_0.length c0_0, .slice A0_1 l0_1.length c0_1]) (t := 27) ?hr ?_; (case hd => rfl); (case hg => rfl); (case hr => first | (go_simp; done) | (go_simp; rfl)); intro gb796 hg w5 hbox hb; have n0_ := Aside0.mk (below_step (by repeat (first | (with_reducible first | exact HB.out | apply below_alloc | apply pw_below_drewN | apply below_drew1) | exact HB.out)) hb); have n1_ := Aside0.mk (hbox); have n2_ := Aside0.mk ((by rw [hg]; exact (below_size (by repeat (first | (with_reducible first | exact HB.out | apply below_alloc | apply pw_below_drewN | apply below_drew1) | exact HB.out))) : w.heap.size ≤ gb796)); have n3_ := Aside0.mk ((by rw [hg]; exact (below_size (by repeat (first | (with_reducible first | exact HB.out | apply below_alloc | apply pw_below_drewN | apply below_drew1) | exact HB.out))) : w.heap.size ≤ gb796)); clear HB; have HB := n0_; have BK796 := n1_; have GW796 := n2_; have GE796 := n3_; clear n0_ n1_ n2_ n3_; clear hb hbox hg) | ((with_reducible refine gate_dst (N := 2) rfl ?_); refine box_event ?hg (N := 2) ?hd (cs := #[.int .i64 0, .bool false, .bool false, .int .i64 0, .int .i64 0]) (t := 44) ?hr ?_; (case hd => rfl); (case hg => rfl); (case hr => first | (go_simp; done) | (go_simp; rfl)); intro gb797 hg w6 hbox hb; have n0_ := Aside0.mk (blk_below (g := gb796) (o := .cells #[.slice A0_0 l0_0.length c0_0, .slice A0_1 l0_1.length c0_1] 27 (0, 0)) (by (with_reducible repeat (first | refine blk_drewN ?_ _ | refine blk_drew ?_ | refine blk_alloc ?_ _)); exact BK796.out) hb); have n1_ := Aside0.mk (below_step (by repeat (first | (with_reducible first | exact HB.out | apply below_alloc | apply pw_below_drewN | apply below_drew1 | refine below_set ?_ GE796.out) | exact HB.out)) hb); have n2_ := Aside0.mk (hbox); have n3_ := Aside0.mk ((by rw [hg]; exact (below_size (by repeat (first | (with_reducible first | exact HB.out | apply below_alloc | apply pw_below_drewN | apply below_drew1 | refine below_set ?_ GE796.out) | exact HB.out))) : w.heap.size ≤ gb797)); have n4_ := Aside0.mk ((by rw [hg]; exact (below_size (by repeat (first | (with_reducible first | exact HB.out | apply below_alloc | apply pw_below_drewN | apply below_drew1 | refine below_set ?_ GE796.out) | exact HB.out))) : w.heap.size ≤ gb797)); have n5_ := Aside0.mk ((by rw [hg]; exact Nat.ne_of_lt (blk_lt (g := gb796) (o := .cells #[.slice A0_0 l0_0.length c0_0, .slice A0_1 l0_1.length c0_1] 27 (0, 0)) (by (with_reducible repeat (first | refine blk_drewN ?_ _ | refine blk_drew ?_ | refine blk_alloc ?_ _)); exact BK796.out)) : gb796 ≠ gb797)); have n6_ := Aside0.mk ((by rw [hg]; exact Nat.ne_of_gt (blk_lt (g := gb796) (o := .cells #[.slice A0_0 l0_0.length c0_0, .slice A0_1 l0_1.length c0_1] 27 (0, 0)) (by (with_reducible repeat (first | refine blk_drewN ?_ _ | refine blk_drew ?_ | refine blk_alloc ?_ _)); exact BK796.out)) : gb797 ≠ gb796)); clear BK796; clear HB; have BK796 := n0_; have HB := n1_; have BK797 := n2_; have GW797 := n3_; have GE797 := n4_; have NB796_797 := n5_; have NB797_796 := n6_; clear n0_ n1_ n2_ n3_ n4_ n5_ n6_; clear hb hbox hg; have hnb7 := NB796_797.out; have hnc7 := NB797_796.out; have hcz8_0 : w6.cell? ⟨gb796, 0, none⟩ = some (.slice A0_0 l0_0.length c0_0) := (blk_cell BK796.out 0).trans rfl; have hcz8_1 : w6.cell? ⟨gb796, 1, none⟩ = some (.slice A0_1 l0_1.length c0_1) := (blk_cell BK796.out 1).trans rfl; have hfz8_0 := blk_frozen BK796.out 0; have hfz8_1 := blk_frozen BK796.out 1) | ((with_reducible refine gate_callee (f := 59) rfl ?_); refine goesL_ (some 4) rfl rfl Try.func59 (by kernel_rfl) rfl #[.agg #[.slice A0_0 l0_0.length c0_0, .slice A0_1 l0_1.length c0_1]] rfl (by (try simp only [List.map_toArray, List.map_cons, List.map_nil]); first | done | rfl | (simp only [List.length_drop, List.length_take]; rfl)) ?_; (with_reducible refine (center_Fit.calls k _ _ l0_0 _ _ l0_1 true _ ?side1 ?side2 ?side3 ?side4 A2.out).mono ?_); (case side1 => repeat (first | exact (Kd.C_below HR0_0.out HB.out) | (with_reducible refine Kd.C_alloc ?_ _) | (with_reducible refine Kd.C_drewN ?_ _) | (with_reducible refine Kd.C_drew ?_))); (case side2 => exact HC0_0.out); (case side3 => repeat (first | exact (Kd.C_below HR0_1.out HB.out) | (with_reducible refine Kd.C_alloc ?_ _) | (with_reducible refine Kd.C_drewN ?_ _) | (with_reducible refine Kd.C_drew ?_))); (case side4 => exact HC0_1.out); rintro e w9 ⟨rfl, hb⟩; refine ⟨_, rfl, ?_⟩; have n0_ := Aside0.mk (blk_below (g := gb796) (o := .cells #[.slice A0_0 l0_0.length c0_0, .slice A0_1 l0_1.length c0_1] 27 (0, 0)) (by (with_reducible repeat (first | refine blk_drewN ?_ _ | refine blk_drew ?_ | refine blk_alloc ?_ _)); exact BK796.out) hb); have n1_ := Aside0.mk (blk_below (g := gb797) (o := .cells #[.int .i64 0, .bool false, .bool false, .int .i64 0, .int .i64 0] 44 (0, 0)) (by (with_reducible repeat (first | refine blk_drewN ?_ _ | refine blk_drew ?_ | refine blk_alloc ?_ _)); exact BK797.out) hb); have n2_ := Aside0.mk (below_step (by repeat (first | (with_reducible first | exact HB.out | apply below_alloc | apply pw_below_drewN | apply below_drew1 | refine below_set ?_ GE796.out | refine below_set ?_ GE797.out) | exact HB.out)) hb); clear BK796; clear BK797; clear HB; have BK796 := n0_; have BK797 := n1_; have HB := n2_; clear n0_ n1_ n2_; (try clear hb); (try clear hb2); (try clear hk); (try clear hi); have hcz10_0 : w9.cell? ⟨gb796, 0, none⟩ = some (.slice A0_0 l0_0.length c0_0) := (blk_cell BK796.out 0).trans rfl; have hcz10_1 : w9.cell? ⟨gb796, 1, none⟩ = some (.slice A0_1 l0_1.length c0_1) := (blk_cell BK796.out 1).trans rfl; have hfz10_0 := blk_frozen BK796.out 0; have hfz10_1 := blk_frozen BK796.out 1) | ((with_reducible refine gate_callee (f := 110) rfl ?_); refine goesL_ (some 8) rfl rfl Try.func110 (by kernel_rfl) rfl #[.agg #[.slice A0_0 l0_0.length c0_0, .slice A0_1 l0_1.length c0_1]] rfl (by (try simp only [List.map_toArray, List.map_cons, List.map_nil]); first | done | rfl | (simp only [List.length_drop, List.length_take]; rfl)) ?_; (with_reducible refine (graph_Diameter.calls k _ _ l0_0 _ _ l0_1 t799 _ ?side1 ?side2 ?side3 ?side4 A4.out).mono ?_); (case side1 => repeat (first | exact (Kd.C_below HR0_0.out HB.out) | (with_reducible refine Kd.C_alloc ?_ _) | (with_reducible refine Kd.C_drewN ?_ _) | (with_reducible refine Kd.C_drew ?_))); (case side2 => exact HC0_0.out); (case side3 => repeat (first | exact (Kd.C_below HR0_1.out HB.out) | (with_reducible refine Kd.C_alloc ?_ _) | (with_reducible refine Kd.C_drewN ?_ _) | (with_reducible refine Kd.C_drew ?_))); (case side4 => exact HC0_1.out); rintro e w11 ⟨rfl, hb⟩; refine ⟨_, rfl, ?_⟩; have n0_ := Aside0.mk (blk_below (g := gb796) (o := .cells #[.slice A0_0 l0_0.length c0_0, .slice A0_1 l0_1.length c0_1] 27 (0, 0)) (by (with_reducible repeat (first | refine blk_drewN ?_ _ | refine blk_drew ?_ | refine blk_alloc ?_ _)); exact BK796.out) hb); have n1_ := Aside0.mk (blk_below (g := gb797) (o := .cells #[.int .i64 0, .bool false, .bool false, .int .i64 0, .int .i64 0] 44 (0, 0)) (by (with_reducible repeat (first | refine blk_drewN ?_ _ | refine blk_drew ?_ | refine blk_alloc ?_ _)); exact BK797.out) hb); have n2_ := Aside0.mk (below_step (by repeat (first | (with_reducible first | exact HB.out | apply below_alloc | apply pw_below_drewN | apply below_drew1 | refine below_set ?_ GE796.out | refine below_set ?_ GE797.out) | exact HB.out)) hb); clear BK796; clear BK797; clear HB; have BK796 := n0_; have BK797 := n1_; have HB := n2_; clear n0_ n1_ n2_; (try clear hb); (try clear hb2); (try clear hk); (try clear hi); have hcz12_0 : w11.cell? ⟨gb797, 0, none⟩ = some (.int .i64 0) := (blk_cell BK797.out 0).trans rfl; have hcz12_1 : w11.cell? ⟨gb797, 1, none⟩ = some (.bool false) := (blk_cell BK797.out 1).trans rfl; have hcz12_2 : w11.cell? ⟨gb797, 2, none⟩ = some (.bool false) := (blk_cell BK797.out 2).trans rfl; have hcz12_3 : w11.cell? ⟨gb797, 3, none⟩ = some (.int .i64 0) := (blk_cell BK797.out 3).trans rfl; have hcz12_4 : w11.cell? ⟨gb797, 4, none⟩ = some (.int .i64 0) := (blk_cell BK797.out 4).trans rfl; have hfz12_0 := blk_frozen BK797.out 0; have hfz12_1 := blk_frozen BK797.out 1; have hfz12_2 := blk_frozen BK797.out 2; have hfz12_3 := blk_frozen BK797.out 3; have hfz12_4 := blk_frozen BK797.out 4))
  refine bodyPost_ret (results_cell_row rfl _ _ gb797 44 #[.int .i64 3, .bool false, .bool true, .int .i64 (wrap64 ((wrap64 (Int.tdiv t799 2)) + 1)), .int .i64 (-1)] (0, 0) _ rfl (by (with_reducible repeat (first | refine blk_drewN ?_ _ | refine blk_drew ?_ | refine blk_alloc ?_ _)); refine blk_put (cs := #[.int .i64 3, .bool false, .bool true, .int .i64 (wrap64 ((wrap64 (Int.tdiv t799 2)) + 1)), .int .i64 0]) ?_ 4 _ rfl; (with_reducible repeat (first | refine blk_drewN ?_ _ | refine blk_drew ?_ | refine blk_alloc ?_ _)); refine blk_put (cs := #[.int .i64 3, .bool false, .bool true, .int .i64 0, .int .i64 0]) ?_ 3 _ rfl; (with_reducible repeat (first | refine blk_drewN ?_ _ | refine blk_drew ?_ | refine blk_alloc ?_ _)); refine blk_put (cs := #[.int .i64 3, .bool false, .bool false, .int .i64 0, .int .i64 0]) ?_ 2 _ rfl; (with_reducible repeat (first | refine blk_drewN ?_ _ | refine blk_drew ?_ | refine blk_alloc ?_ _)); refine blk_put (cs := #[.int .i64 3, .bool false, .bool false, .int .i64 0, .int .i64 0]) ?_ 1 _ rfl; (with_reducible repeat (first | refine blk_drewN ?_ _ | refine blk_drew ?_ | refine blk_alloc ?_ _)); refine blk_put (cs := #[.int .i64 0, .bool false, .bool false, .int .i64 0, .int .i64 0]) ?_ 0 _ rfl; (with_reducible repeat (first | refine blk_drewN ?_ _ | refine blk_drew ?_ | refine blk_alloc ?_ _)); exact BK797.out) Try.underlying44 rfl (by kernel_rfl)) rfl ?_
  exact ⟨by first | rfl | (simp [errW_none, errW_some] <;> rfl) | (simp [*, errW_none, errW_some] <;> rfl), by repeat (first | (with_reducible first | exact HB.out | apply below_alloc | apply pw_below_drewN | apply below_drew1 | refine below_set ?_ GE796.out | refine below_set ?_ GE797.out) | exact HB.out)⟩
 ·
  replace c3 := Bool.eq_false_iff.mpr c3
  subst c3
  have H1 : (some (0, false, false, 0, 0)) = some (r1, r2, r3, r4, r5) := by rw [if_neg (show ¬ (false = true) by decide)] at H; exact H
  clear H
  have H := H1
  clear H1
  simp only [Option.some.injEq, Prod.mk.injEq] at H
  obtain ⟨rfl, rfl, rfl, rfl, rfl⟩ := H
  go_enter Try.func63, Try.ntmps63
  go_wp2_with (first | ((with_reducible refine gate_dst (N := 1) rfl ?_); refine box_event ?hg (N := 1) ?hd (cs := #[.slice A0_0 l0_0.length c0_0, .slice A0_1 l0_1.length c0_1]) (t := 27) ?hr ?_; (case hd => rfl); (case hg => rfl); (case hr => first | (go_simp; done) | (go_simp; rfl)); intro gb796 hg w13 hbox hb; have n0_ := Aside0.mk (below_step (by repeat (first | (with_reducible first | exact HB.out | apply below_alloc | apply pw_below_drewN | apply below_drew1) | exact HB.out)) hb); have n1_ := Aside0.mk (hbox); have n2_ := Aside0.mk ((by rw [hg]; exact (below_size (by repeat (first | (with_reducible first | exact HB.out | apply below_alloc | apply pw_below_drewN | apply below_drew1) | exact HB.out))) : w.heap.size ≤ gb796)); have n3_ := Aside0.mk ((by rw [hg]; exact (below_size (by repeat (first | (with_reducible first | exact HB.out | apply below_alloc | apply pw_below_drewN | apply below_drew1) | exact HB.out))) : w.heap.size ≤ gb796)); clear HB; have HB := n0_; have BK796 := n1_; have GW796 := n2_; have GE796 := n3_; clear n0_ n1_ n2_ n3_; clear hb hbox hg) | ((with_reducible refine gate_dst (N := 2) rfl ?_); refine box_event ?hg (N := 2) ?hd (cs := #[.int .i64 0, .bool false, .bool false, .int .i64 0, .int .i64 0]) (t := 44) ?hr ?_; (case hd => rfl); (case hg => rfl); (case hr => first | (go_simp; done) | (go_simp; rfl)); intro gb797 hg w14 hbox hb; have n0_ := Aside0.mk (blk_below (g := gb796) (o := .cells #[.slice A0_0 l0_0.length c0_0, .slice A0_1 l0_1.length c0_1] 27 (0, 0)) (by (with_reducible repeat (first | refine blk_drewN ?_ _ | refine blk_drew ?_ | refine blk_alloc ?_ _)); exact BK796.out) hb); have n1_ := Aside0.mk (below_step (by repeat (first | (with_reducible first | exact HB.out | apply below_alloc | apply pw_below_drewN | apply below_drew1 | refine below_set ?_ GE796.out) | exact HB.out)) hb); have n2_ := Aside0.mk (hbox); have n3_ := Aside0.mk ((by rw [hg]; exact (below_size (by repeat (first | (with_reducible first | exact HB.out | apply below_alloc | apply pw_below_drewN | apply below_drew1 | refine below_set ?_ GE796.out) | exact HB.out))) : w.heap.size ≤ gb797)); have n4_ := Aside0.mk ((by rw [hg]; exact (below_size (by repeat (first | (with_reducible first | exact HB.out | apply below_alloc | apply pw_below_drewN | apply below_drew1 | refine below_set ?_ GE796.out) | exact HB.out))) : w.heap.size ≤ gb797)); have n5_ := Aside0.mk ((by rw [hg]; exact Nat.ne_of_lt (blk_lt (g := gb796) (o := .cells #[.slice A0_0 l0_0.length c0_0, .slice A0_1 l0_1.length c0_1] 27 (0, 0)) (by (with_reducible repeat (first | refine blk_drewN ?_ _ | refine blk_drew ?_ | refine blk_alloc ?_ _)); exact BK796.out)) : gb796 ≠ gb797)); have n6_ := Aside0.mk ((by rw [hg]; exact Nat.ne_of_gt (blk_lt (g := gb796) (o := .cells #[.slice A0_0 l0_0.length c0_0, .slice A0_1 l0_1.length c0_1] 27 (0, 0)) (by (with_reducible repeat (first | refine blk_drewN ?_ _ | refine blk_drew ?_ | refine blk_alloc ?_ _)); exact BK796.out)) : gb797 ≠ gb796)); clear BK796; clear HB; have BK796 := n0_; have HB := n1_; have BK797 := n2_; have GW797 := n3_; have GE797 := n4_; have NB796_797 := n5_; have NB797_796 := n6_; clear n0_ n1_ n2_ n3_ n4_ n5_ n6_; clear hb hbox hg; have hnb15 := NB796_797.out; have hnc15 := NB797_796.out; have hcz16_0 : w14.cell? ⟨gb796, 0, none⟩ = some (.slice A0_0 l0_0.length c0_0) := (blk_cell BK796.out 0).trans rfl; have hcz16_1 : w14.cell? ⟨gb796, 1, none⟩ = some (.slice A0_1 l0_1.length c0_1) := (blk_cell BK796.out 1).trans rfl; have hfz16_0 := blk_frozen BK796.out 0; have hfz16_1 := blk_frozen BK796.out 1) | ((with_reducible refine gate_callee (f := 59) rfl ?_); refine goesL_ (some 4) rfl rfl Try.func59 (by kernel_rfl) rfl #[.agg #[.slice A0_0 l0_0.length c0_0, .slice A0_1 l0_1.length c0_1]] rfl (by (try simp only [List.map_toArray, List.map_cons, List.map_nil]); first | done | rfl | (simp only [List.length_drop, List.length_take]; rfl)) ?_; (with_reducible refine (center_Fit.calls k _ _ l0_0 _ _ l0_1 false _ ?side1 ?side2 ?side3 ?side4 A2.out).mono ?_); (case side1 => repeat (first | exact (Kd.C_below HR0_0.out HB.out) | (with_reducible refine Kd.C_alloc ?_ _) | (with_reducible refine Kd.C_drewN ?_ _) | (with_reducible refine Kd.C_drew ?_))); (case side2 => exact HC0_0.out); (case side3 => repeat (first | exact (Kd.C_below HR0_1.out HB.out) | (with_reducible refine Kd.C_alloc ?_ _) | (with_reducible refine Kd.C_drewN ?_ _) | (with_reducible refine Kd.C_drew ?_))); (case side4 => exact HC0_1.out); rintro e w17 ⟨rfl, hb⟩; refine ⟨_, rfl, ?_⟩; have n0_ := Aside0.mk (blk_below (g := gb796) (o := .cells #[.slice A0_0 l0_0.length c0_0, .slice A0_1 l0_1.length c0_1] 27 (0, 0)) (by (with_reducible repeat (first | refine blk_drewN ?_ _ | refine blk_drew ?_ | refine blk_alloc ?_ _)); exact BK796.out) hb); have n1_ := Aside0.mk (blk_below (g := gb797) (o := .cells #[.int .i64 0, .bool false, .bool false, .int .i64 0, .int .i64 0] 44 (0, 0)) (by (with_reducible repeat (first | refine blk_drewN ?_ _ | refine blk_drew ?_ | refine blk_alloc ?_ _)); exact BK797.out) hb); have n2_ := Aside0.mk (below_step (by repeat (first | (with_reducible first | exact HB.out | apply below_alloc | apply pw_below_drewN | apply below_drew1 | refine below_set ?_ GE796.out | refine below_set ?_ GE797.out) | exact HB.out)) hb); clear BK796; clear BK797; clear HB; have BK796 := n0_; have BK797 := n1_; have HB := n2_; clear n0_ n1_ n2_; (try clear hb); (try clear hb2); (try clear hk); (try clear hi); have hcz18_0 : w17.cell? ⟨gb797, 0, none⟩ = some (.int .i64 0) := (blk_cell BK797.out 0).trans rfl; have hcz18_1 : w17.cell? ⟨gb797, 1, none⟩ = some (.bool false) := (blk_cell BK797.out 1).trans rfl; have hcz18_2 : w17.cell? ⟨gb797, 2, none⟩ = some (.bool false) := (blk_cell BK797.out 2).trans rfl; have hcz18_3 : w17.cell? ⟨gb797, 3, none⟩ = some (.int .i64 0) := (blk_cell BK797.out 3).trans rfl; have hcz18_4 : w17.cell? ⟨gb797, 4, none⟩ = some (.int .i64 0) := (blk_cell BK797.out 4).trans rfl; have hfz18_0 := blk_frozen BK797.out 0; have hfz18_1 := blk_frozen BK797.out 1; have hfz18_2 := blk_frozen BK797.out 2; have hfz18_3 := blk_frozen BK797.out 3; have hfz18_4 := blk_frozen BK797.out 4))
  refine bodyPost_ret (results_cell_row rfl _ _ gb797 44 #[.int .i64 0, .bool false, .bool false, .int .i64 0, .int .i64 0] (0, 0) _ rfl (by (with_reducible repeat (first | refine blk_drewN ?_ _ | refine blk_drew ?_ | refine blk_alloc ?_ _)); refine blk_put (cs := #[.int .i64 0, .bool false, .bool false, .int .i64 0, .int .i64 0]) ?_ 4 _ rfl; (with_reducible repeat (first | refine blk_drewN ?_ _ | refine blk_drew ?_ | refine blk_alloc ?_ _)); refine blk_put (cs := #[.int .i64 0, .bool false, .bool false, .int .i64 0, .int .i64 0]) ?_ 3 _ rfl; (with_reducible repeat (first | refine blk_drewN ?_ _ | refine blk_drew ?_ | refine blk_alloc ?_ _)); refine blk_put (cs := #[.int .i64 0, .bool false, .bool false, .int .i64 0, .int .i64 0]) ?_ 2 _ rfl; (with_reducible repeat (first | refine blk_drewN ?_ _ | refine blk_drew ?_ | refine blk_alloc ?_ _)); refine blk_put (cs := #[.int .i64 0, .bool false, .bool false, .int .i64 0, .int .i64 0]) ?_ 1 _ rfl; (with_reducible repeat (first | refine blk_drewN ?_ _ | refine blk_drew ?_ | refine blk_alloc ?_ _)); refine blk_put (cs := #[.int .i64 0, .bool false, .bool false, .int .i64 0, .int .i64 0]) ?_ 0 _ rfl; (with_reducible repeat (first | refine blk_drewN ?_ _ | refine blk_drew ?_ | refine blk_alloc ?_ _)); exact BK797.out) Try.underlying44 rfl (by kernel_rfl)) rfl ?_
  exact ⟨by first | rfl | (simp [errW_none, errW_some] <;> rfl) | (simp [*, errW_none, errW_some] <;> rfl), by repeat (first | (with_reducible first | exact HB.out | apply below_alloc | apply pw_below_drewN | apply below_drew1 | refine below_set ?_ GE796.out | refine below_set ?_ GE797.out) | exact HB.out)⟩
end Go.Proofs.YthapikakneikbaaG
/-
  shape.Peaks over the closure of center.Centers: the nodes whose number is not below a neighbour's.
-/
namespace Go.Proofs.Ythapikakneikbaa
open Go.RowKit
def peakTo (c : Conf) (ps : List Link) (v j : Nat) : Bool := (ps.take j).all fun l => decide (vl c l.to_.toNat 0 ≤ vl c v 0)
def peakB (g : Graph) (c : Conf) (v : Nat) : Bool := (g.ports.getD v []).all fun l => decide (vl c l.to_.toNat 0 ≤ vl c v 0)
def peaksB (g : Graph) (c : Conf) : Nat := bitsOf (peakB g c) g.ports.length
theorem peakTo_succ {c : Conf} {ps : List Link} {v j : Nat} (hj : j < ps.length) : peakTo c ps v (j + 1) = (peakTo c ps v j && decide (vl c ps[j].to_.toNat 0 ≤ vl c v 0)) := by
  unfold peakTo
  rw [List.take_succ_eq_append_getElem hj, List.all_append]
  simp
/-- The closure: it reads the configuration's variable. -/
theorem value_calls (w : World) (X : Nat) (A : Option Addr) (k0 : Nat) (c : Conf) (hb : w.heap[X]? = some (.cells #[.slice A c.length k0] 29 (0, 0))) (hc : kConf.C w A c) (v : Nat) (hv : v < c.length) (hr : ∀ r ∈ c, 0 < r.length) :
    Calls Try.prog 113 #[.int .i64 v, .pointer (some ⟨X, 0, none⟩)] w fun e w' => e = .returned (.int .i64 (vl c v 0)) ∧ w = w' := by
  have cX := blk_cell (j := 0) (v := .slice A c.length k0) hb rfl
  obtain ⟨ad, A2, c2, hA, hcell, hl2, hC2⟩ := Kd.at_slice hc v hv
  cases hA
  have hx := hr _ (List.getElem_mem hv)
  obtain ⟨ad2, hA2, hc3⟩ := Kd.at_int hC2 0 hx
  cases hA2
  have HV := Lib.hid (vl_at hv hx)
  generalize c[v][0] = y at hc3 HV
  generalize c[v] = r at hcell hl2 hx
  have hcm := Kd.C_max hc
  clear hC2 hc hb hr
  have hc4 : w.cell? ad2 = some (.int .i64 y) := by simpa [Addr.add] using hc3
  clear hc3
  go_enter Try.func113, Try.ntmps113
  go_wp2_with fail
  go_ret
  exact ⟨by rw [HV.out]; rfl, rfl⟩
set_option maxHeartbeats 4000000 in
set_option maxRecDepth 100000 in
theorem peaks_calls (w : World) (A0 : Option Addr) (c0 : Nat) (A1 : Option Addr) (c1 : Nat) (g : Graph) (hg : IsGraph w A0 c0 A1 c1 g) (hV : g.valid = true) (X : Nat) (A : Option Addr) (k0 : Nat) (c : Conf)
    (hb : w.heap[X]? = some (.cells #[.slice A c.length k0] 29 (0, 0))) (hc : kConf.C w A c) (hcl : c.length = g.ports.length) (hr : ∀ r ∈ c, 0 < r.length) :
    Calls Try.prog 112 #[.agg #[.slice A0 g.ids.length c0, .slice A1 g.ports.length c1], .func (.func 113) #[] #[.pointer (some ⟨X, 0, none⟩)]] w fun e w' => e = .returned (.int .u32 (peaksB g c : Nat)) ∧ Below w.heap.size w w' := by
  have hn1 := ((valid_iff g).1 hV).1.1
  have hn2 := ((valid_iff g).1 hV).1.2.1
  have HTO : Hid (∀ v (hv : v < g.ports.length), ∀ l ∈ g.ports[v], 0 ≤ l.to_ ∧ l.to_ < g.ports.length) := fun v hv l hl => by
    have h4 := ((valid_iff g).1 hV).2.2.2.1 ⟨v, l.to_, l.wt⟩ (by
      unfold Graph.edges
      rw [mem_edgesFrom]
      exact ⟨v, g.ports[v], by simp [hv], by simp, hl⟩)
    simp only [Edge.ok, decide_eq_true_eq] at h4
    exact ⟨h4.1, h4.2.1⟩
  have hb0 := (Below.refl w.heap.size w).alloc (Nat.le_refl _) (.cells #[.slice A0 g.ids.length c0, .slice A1 g.ports.length c1] 27)
  have HG := Lib.hid (hg.below hb0)
  have HC := Lib.hid (Kd.C_below hc hb0)
  have HX := Lib.hid (blk_alloc hb (.cells #[.slice A0 g.ids.length c0, .slice A1 g.ports.length c1] 27))
  have bG : (w.alloc (.cells #[.slice A0 g.ids.length c0, .slice A1 g.ports.length c1] 27)).heap[w.heap.size]? = some (.cells #[.slice A0 g.ids.length c0, .slice A1 g.ports.length c1] 27 (0, 0)) := blk_new rfl
  have HR := Lib.hid hr
  have hpm := Kd.C_max hg.ports
  have HCL := Lib.hid hcl
  clear hg hc hb hr hV hcl
  go_enter Try.func112, Try.ntmps112
  go_wp2_with fail
  generalize w.alloc _ = w1 at hb0 HG HC HX bG ⊢
  have HB0 := Lib.hid hb0
  have k1 := blk_cell (j := 1) (v := .slice A1 g.ports.length c1) bG rfl
  have hw1 : w.heap.size < w1.heap.size := blk_lt bG
  clear hb0 bG
  go_wp2_with fail
  go_loopw [5, 14] (fun s i wr => ∃ v : Nat, v ≤ g.ports.length ∧ i = .int .i64 v ∧ s = .int .u32 (bitsOf (peakB g c) v : Nat) ∧ Below w1.heap.size w1 wr) (fun _ i _ => g.ports.length - (intOf i).toNat)
  case atStart => exact ⟨0, Nat.zero_le _, rfl, rfl, Below.refl _ _⟩
  case round =>
    obtain ⟨wv, rfl⟩ : ∃ wv : World, wv = wr := ⟨_, rfl⟩
    obtain ⟨v, hv, rfl, rfl, hb⟩ := hrel
    have HGv := Lib.hid (HG.out.below hb)
    have HCv := Lib.hid (Kd.C_below HC.out hb)
    have HXv := Lib.hid (blk_below HX.out hb)
    have HBv := Lib.hid hb
    have hzv := hb.size
    clear hb
    have hs32 := bitsOf_small (p := peakB g c) (n := v) (by omega)
    by_cases hlt : v < g.ports.length
    · obtain ⟨ad, A2, c2, hA, hcell, hl2, hC2⟩ := Kd.at_slice HGv.out.ports v hlt
      cases hA
      obtain ⟨ps, hps⟩ : ∃ ps, g.ports[v] = ps := ⟨_, rfl⟩
      have HT := Lib.hid (HTO.out v hlt)
      rw [hps] at hcell hl2 hC2 HT
      have HP : Hid (g.ports.getD v [] = ps) := by unfold Hid; rw [← hps]; simp [List.getD_eq_getElem?_getD, hlt]
      have HC2 := Lib.hid hC2
      have hpsm := Kd.C_max hC2
      clear hps hC2
      have HPK : Hid (peakB g c v = peakTo c ps v ps.length) := by unfold Hid peakB peakTo; rw [HP.out, List.take_length]
      obtain ⟨bs, hbs⟩ : ∃ bs, bitsOf (peakB g c) v = bs := ⟨_, rfl⟩
      have HBS : Hid (bitsOf (peakB g c) (v + 1) = if peakTo c ps v ps.length then bs ||| 2 ^ v else bs) := by unfold Hid; rw [bitsOf, HPK.out, hbs]
      rw [hbs] at hs32 ⊢
      clear hbs
      go_wp2_with fail
      go_loopw [8, 21] (fun t i wi => ∃ j : Nat, j ≤ ps.length ∧ i = .int .i64 j ∧ t = .bool (peakTo c ps v j) ∧ Below wv.heap.size wv wi) (fun _ i _ => ps.length - (intOf i).toNat)
      case atStart => exact ⟨0, Nat.zero_le _, rfl, rfl, Below.refl _ _⟩
      case round =>
        obtain ⟨wi, rfl⟩ : ∃ wi : World, wi = wr := ⟨_, rfl⟩
        obtain ⟨j, hj, rfl, rfl, hbi⟩ := hrel
        have HBi := Lib.hid hbi
        have hzi := hbi.size
        have HCi := Lib.hid (Kd.C_below HC2.out hbi)
        have HCc := Lib.hid (Kd.C_below HCv.out hbi)
        have HXi := Lib.hid (blk_below HXv.out hbi)
        clear hbi
        by_cases hjl : j < ps.length
        · obtain ⟨x, y, hxy⟩ : ∃ x y, ps[j] = ⟨x, y⟩ := ⟨_, _, rfl⟩
          obtain ⟨ad2, hA2, hx, hy⟩ := at_link HCi.out j hjl
          have ht := HT.out ps[j] (List.getElem_mem hjl)
          have hps := peakTo_succ (c := c) (v := v) hjl
          rw [hxy] at hx hy ht hps
          simp only at hx hy ht hps
          cases hA2
          have HPS := Lib.hid hps
          clear hps hxy
          obtain ⟨t, rfl⟩ := Int.eq_ofNat_of_zero_le ht.1
          have htl : t < c.length := by have := ht.2; have := HCL.out; omega
          have hvl : v < c.length := by have := HCL.out; omega
          cases hpk : peakTo c ps v j with
          | false =>
            have HPF : Hid (peakTo c ps v (j + 1) = false) := by unfold Hid; rw [HPS.out, hpk]; rfl
            clear hpk HPS
            go_wp2_with fail
            go_roundw
            case rel => exact ⟨j + 1, by omega, by go_num, by rw [HPF.out], HBi.out.alloc hzi _⟩
            case measure => simp [intOf]; omega
          | true =>
            have HPF : Hid (peakTo c ps v (j + 1) = decide (vl c t 0 ≤ vl c v 0)) := by unfold Hid; rw [HPS.out, hpk]; simp
            clear hpk HPS
            go_wp2_with fail
            refine (value_calls _ X A k0 c (blk_alloc HXi.out _) (Kd.C_below HCc.out ((Below.refl _ _).alloc (Nat.le_refl _) _)) t htl HR.out).mono ?_
            rintro e w3 ⟨rfl, rfl⟩
            go_wp2_with fail
            refine (value_calls _ X A k0 c (blk_alloc HXi.out _) (Kd.C_below HCc.out ((Below.refl _ _).alloc (Nat.le_refl _) _)) v hvl HR.out).mono ?_
            rintro e w3 ⟨rfl, rfl⟩
            generalize vl c t 0 = p1 at HPF ⊢
            generalize vl c v 0 = p2 at HPF ⊢
            go_wp2_with fail
            go_roundw
            case rel => exact ⟨j + 1, by omega, by go_num, by rw [HPF.out], HBi.out.alloc hzi _⟩
            case measure => simp [intOf]; omega
        · have hje : j = ps.length := by omega
          subst hje
          have HB2 := Lib.hid (HBv.out.trans (HBi.out.mono hzv))
          cases hpk : peakTo c ps v ps.length with
          | false =>
            have HBN : Hid (bitsOf (peakB g c) (v + 1) = bs) := by unfold Hid; rw [HBS.out, hpk]; rfl
            clear HBS hpk HPK
            go_wp2_with fail
            go_roundw
            case rel => exact ⟨v + 1, by omega, by go_num, by rw [HBN.out], HB2.out⟩
            case measure => simp [intOf]; omega
          | true =>
            have HBN : Hid (bitsOf (peakB g c) (v + 1) = bs ||| 2 ^ v) := by unfold Hid; rw [HBS.out, hpk]; rfl
            clear HBS hpk HPK
            have hv32 : v < 32 := by omega
            go_wp2_with fail
            go_roundw
            case rel => exact ⟨v + 1, by omega, by go_num, by rw [HBN.out, shl1 hv32, or_one hs32 hv32], HB2.out⟩
            case measure => simp [intOf]; omega
    · have HE := Lib.hid (show v = g.ports.length by omega)
      go_wp2_with fail
      go_ret
      exact ⟨by unfold peaksB; rw [← HE.out]; rfl, HB0.out.trans (HBv.out.mono (by omega))⟩
end Go.Proofs.Ythapikakneikbaa
/-
  As ShapeBridge, beside the contract of shape.Peaks.
-/
namespace Go.Proofs.YthapikakneikbaaG
open Go.RowKit Go.Proofs.YthapikakneikbaaW.PrintWords Go.Proofs.YthapikakneikbaaW.PrintLast Go.Proofs.YthapikakneikbaaW.PrintMore
attribute [local go_sem] max2_int min2_int max_two min_two max_three min_three max_four min_four   -- for this text's walks alone
set_option linter.unusedVariables false
set_option linter.unusedSimpArgs false
def center_Centers.f (k : Nat) (l0_0 : List Int) (l0_1 : List (List (S60))) (l1 : List (List Int)) : Option (Int) := (center_configuration.f k l0_0 l0_1 l1).bind fun b => if b = true then (if (toG l0_0 l0_1).valid = true ∧ l1.length = l0_1.length ∧ (l1.all fun r => decide (0 < r.length)) = true then some ((Go.Proofs.Ythapikakneikbaa.peaksB (toG l0_0 l0_1) l1 : Nat) : Int) else none) else some 0
theorem center_Centers.mono : ∀ a0 a1 a2 k, LeO (center_Centers.f k a0 a1 a2) (center_Centers.f (k + 1) a0 a1 a2) := by
 intro a0 a1 a2 k
 unfold center_Centers.f
 exact LeO.bind (center_configuration.mono _ _ _ _) (fun _ => LeO.refl _)
theorem center_Centers.calls (k : Nat) (A0_0 : Option Addr) (c0_0 : Nat) (l0_0 : List Int) (A0_1 : Option Addr) (c0_1 : Nat) (l0_1 : List (List (S60))) (A1 : Option Addr) (c1 : Nat) (l1 : List (List Int)) (r : Int) (w : World) (hr0_0 : Kd.C (Kd.int .i64) w A0_0 l0_0.length l0_0) (hc0_0 : l0_0.length ≤ c0_0) (hr0_1 : Kd.C (Kd.slice 60 k60) w A0_1 l0_1.length l0_1) (hc0_1 : l0_1.length ≤ c0_1) (hr1 : Kd.C (Kd.slice 3 (Kd.int .i64)) w A1 l1.length l1) (hc1 : l1.length ≤ c1) (h : center_Centers.f k l0_0 l0_1 l1 = some r) :
  Calls Try.prog 65 #[.agg #[.slice A0_0 l0_0.length c0_0, .slice A0_1 l0_1.length c0_1], .slice A1 l1.length c1] w fun e w' => e = .returned (.int .u32 r) ∧ Below w.heap.size w w' := by
 unfold center_Centers.f at h
 obtain ⟨b, hb, h⟩ := Option.bind_eq_some_iff.1 h
 have hg := isGraph hr0_0 hc0_0 hr0_1 hc0_1
 have HG := Go.Lib.hid hg
 have HC := Go.Lib.hid (C_conf hr1)
 have HR0 := Go.Lib.hid hr0_0
 have HR1 := Go.Lib.hid hr0_1
 have HR2 := Go.Lib.hid hr1
 have HBq := Go.Lib.hid hb
 have HH := Go.Lib.hid h
 have e1 : (toG l0_0 l0_1).ports.length = l0_1.length := by simp [toG]
 have E1 := Go.Lib.hid e1
 clear hr0_0 hr0_1 hr1 hb h hg e1
 have hbw := ((Below.refl w.heap.size w).alloc (Nat.le_refl _) (.cells #[.slice A0_0 l0_0.length c0_0, .slice A0_1 l0_1.length c0_1] 27)).alloc (by simp) (.cells #[.slice A1 l1.length c1] 29)
 have HBW := Go.Lib.hid hbw
 have bX : ((w.alloc (.cells #[.slice A0_0 l0_0.length c0_0, .slice A0_1 l0_1.length c0_1] 27)).alloc (.cells #[.slice A1 l1.length c1] 29)).heap[w.heap.size + 1]? = some (.cells #[.slice A1 l1.length c1] 29 (0, 0)) := Go.Proofs.Ythapikakneikbaa.blk_new (by simp)
 have bG : ((w.alloc (.cells #[.slice A0_0 l0_0.length c0_0, .slice A0_1 l0_1.length c0_1] 27)).alloc (.cells #[.slice A1 l1.length c1] 29)).heap[w.heap.size]? = some (.cells #[.slice A0_0 l0_0.length c0_0, .slice A0_1 l0_1.length c0_1] 27 (0, 0)) := Go.Proofs.Ythapikakneikbaa.blk_alloc (Go.Proofs.Ythapikakneikbaa.blk_new rfl) _
 have BX := Go.Lib.hid bX
 have BG := Go.Lib.hid bG
 clear hbw bX bG
 have hu27 := Try.underlying27
 go_enter Try.func65, Try.ntmps65
 go_wp2_with fail
 generalize (w.alloc _).alloc _ = w1 at HBW BX BG ⊢
 have k0 := Go.Proofs.Ythapikakneikbaa.blk_cell (j := 0) (v := .slice A0_0 l0_0.length c0_0) BG.out rfl
 have k1 := Go.Proofs.Ythapikakneikbaa.blk_cell (j := 1) (v := .slice A0_1 l0_1.length c0_1) BG.out rfl
 have k2 := Go.Proofs.Ythapikakneikbaa.blk_cell (j := 0) (v := .slice A1 l1.length c1) BX.out rfl
 go_wp2_with fail
 refine (center_configuration.calls k A0_0 c0_0 l0_0 A0_1 c0_1 l0_1 A1 c1 l1 b w1 (Kd.C_below HR0.out HBW.out) hc0_0 (Kd.C_below HR1.out HBW.out) hc0_1 (Kd.C_below HR2.out HBW.out) hc1 HBq.out).mono ?_
 rintro e w2 ⟨rfl, hb2⟩
 have HB2 := Go.Lib.hid hb2
 have HBw2 := Go.Lib.hid (HBW.out.trans (hb2.mono HBW.out.size))
 have j0 := Go.Proofs.Ythapikakneikbaa.blk_cell (j := 0) (v := .slice A0_0 l0_0.length c0_0) (Go.Proofs.Ythapikakneikbaa.blk_below BG.out hb2) rfl
 have j1 := Go.Proofs.Ythapikakneikbaa.blk_cell (j := 1) (v := .slice A0_1 l0_1.length c0_1) (Go.Proofs.Ythapikakneikbaa.blk_below BG.out hb2) rfl
 have BX2 := Go.Lib.hid (Go.Proofs.Ythapikakneikbaa.blk_below BX.out hb2)
 clear hb2 k0 k1 k2
 cases b with
 | false =>
  have hq := HH.out
  rw [if_neg (by simp)] at hq
  injection hq with hq
  have HQ := Go.Lib.hid hq
  clear hq
  go_wp2_with fail
  go_ret
  exact ⟨by rw [← HQ.out]; rfl, HBw2.out⟩
 | true =>
  have hq := HH.out
  rw [if_pos rfl] at hq
  by_cases hm : (toG l0_0 l0_1).valid = true ∧ l1.length = l0_1.length ∧ (l1.all fun r => decide (0 < r.length)) = true
  ·
   rw [if_pos hm] at hq
   injection hq with hq
   have HQ := Go.Lib.hid hq
   have HM := Go.Lib.hid hm
   clear hq hm
   go_wp2_with fail
   have h := Go.Proofs.Ythapikakneikbaa.peaks_calls w2 A0_0 c0_0 A0_1 c0_1 (toG l0_0 l0_1) (HG.out.below HBw2.out) HM.out.1 (w.heap.size + 1) A1 c1 l1 BX2.out (Go.Proofs.Ythapikakneikbaa.Kd.C_below HC.out HBw2.out) (by rw [E1.out]; exact HM.out.2.1) (fun r hr => by simpa using List.all_eq_true.1 HM.out.2.2 r hr)
   rw [E1.out] at h
   refine h.mono ?_
   rintro e w3 ⟨rfl, hb3⟩
   have HB3 := Go.Lib.hid (HBw2.out.trans (hb3.mono HBw2.out.size))
   rw [HQ.out]
   clear hb3 h
   go_wp2_with fail
   go_ret
   exact ⟨rfl, HB3.out⟩
  ·
   rw [if_neg hm] at hq
   cases hq
end Go.Proofs.YthapikakneikbaaG
/-
  A graph that the world's functions make, in the printed texts' words: its rows are the call's own.
-/
namespace Go.Proofs.YthapikakneikbaaG
open Go.RowKit Go.Proofs.YthapikakneikbaaW.PrintWords
theorem reps_ints {w : World} {base : Nat} {ok : Nat → Prop} (xs : List Int) : Reps ((Kd.int .i64).M w base ok) 1 xs (Go.Proofs.Ythapikakneikbaa.icells xs) := by
  refine ⟨by simp [Go.Proofs.Ythapikakneikbaa.icells], fun j p hj => ?_⟩
  have hl := (List.getElem?_eq_some_iff.1 hj).1
  show _ = [Value.int .i64 p]
  rw [Nat.mul_one, List.take_one, List.head?_drop]
  simp [Go.Proofs.Ythapikakneikbaa.icells, hj]
theorem own_ints {w : World} {B n : Nat} {v : Value} {xs : List Int} (hn : xs.length = n) (h : w.ownsRow B 3 1 v n (Go.Proofs.Ythapikakneikbaa.icells xs)) : Kd.R (Kd.int .i64) 3 w B (fun _ => True) v xs :=
  ⟨fun _ _ => trivial, Go.Proofs.Ythapikakneikbaa.icells xs, by rw [hn]; exact h, reps_ints xs⟩
def ofL (l : Go.Proofs.Ythapikakneikbaa.Link) : S60 := ⟨l.to_, l.wt⟩
theorem reps_links {w : World} {base : Nat} {ok : Nat → Prop} (ps : List Go.Proofs.Ythapikakneikbaa.Link) : Reps (k60.M w base ok) 2 (ps.map ofL) (Go.Proofs.Ythapikakneikbaa.lcells ps) := by
  refine ⟨by rw [Go.Proofs.Ythapikakneikbaa.lcells_length, List.length_map], fun j p hj => ?_⟩
  rw [List.getElem?_map] at hj
  obtain ⟨l, hl, rfl⟩ := Option.map_eq_some_iff.1 hj
  obtain ⟨g0, g1⟩ := Go.Proofs.Ythapikakneikbaa.lcells_get hl
  have : ((Go.Proofs.Ythapikakneikbaa.lcells ps).drop (j * 2)).take 2 = [.int .i64 l.to_, .int .i64 l.wt] := by
    apply List.ext_getElem?
    intro i
    rw [List.getElem?_take]
    match i with
    | 0 => simpa using g0
    | 1 => simpa using g1
    | i + 2 =>
      have : ¬ i + 2 < 2 := by omega
      simp [this]
  rw [this]
  exact k60_mkM w base ok (ofL l)
/-- The rows of links, and the row that leads to them. -/
theorem own_ports {w : World} {B P n : Nat} {vs : List Value} {rows : List (List Go.Proofs.Ythapikakneikbaa.Link)} (hn : rows.length = n) (hm : n ≤ 1000) (h : Go.Proofs.Ythapikakneikbaa.PortsAt w B P vs rows) :
    Kd.S (Kd.slice 60 k60) 52 w B (fun _ => True) (.slice (some ⟨P, 0, none⟩) n n) (rows.map (List.map ofL)) := by
  have hl : vs.length = n := h.rows.len.trans hn
  open Classical in
  refine ⟨fun k => if hk : ∃ (u : Nat) (v : Value), vs[u]? = some v ∧ v.ownBlock = some k then Classical.choose hk else 0, fun _ _ => trivial, vs, ?_, ?_⟩
  · rw [List.length_zipIdx, List.length_map, hn]
    refine ⟨by show vs.length = n * 1; omega, .inr ⟨P, n, vs.toArray, rfl, h.hP, h.blk, Nat.le_refl _, by unfold maxLen; omega, ?_, ?_⟩⟩
    · show vs.toArray.size = n * 1
      simp [hl]
    · show List.take (n * 1) vs.toArray.toList = vs
      rw [Nat.mul_one]
      exact List.take_of_length_le (by simp [hl])
  · refine ⟨by rw [List.length_zipIdx, List.length_map, h.rows.len]; exact (Nat.mul_one _).symm, fun j p hj => ?_⟩
    rw [List.getElem?_zipIdx] at hj
    obtain ⟨r, hr, rfl⟩ := Option.map_eq_some_iff.1 hj
    rw [List.getElem?_map] at hr
    obtain ⟨ps, hps, rfl⟩ := Option.map_eq_some_iff.1 hr
    have hjl := (List.getElem?_eq_some_iff.1 hps).1
    have hv := List.getElem?_eq_getElem (l := vs) (i := j) (by omega)
    generalize vs[j]'(by omega) = v at hv
    have ho := h.rows.own j v ps hv hps
    have hfar := h.far v (List.mem_of_getElem? hv)
    have e1 : (vs.drop (j * (Kd.tag (fun k => if hk : ∃ (u : Nat) (v : Value), vs[u]? = some v ∧ v.ownBlock = some k then Classical.choose hk else 0) (Kd.slice 60 k60)).sz)).take (Kd.tag (fun k => if hk : ∃ (u : Nat) (v : Value), vs[u]? = some v ∧ v.ownBlock = some k then Classical.choose hk else 0) (Kd.slice 60 k60)).sz = [v] := by
      show List.take 1 (List.drop (j * 1) vs) = [v]
      rw [Nat.mul_one, List.take_one, List.head?_drop, hv]
      rfl
    rw [e1]
    refine ⟨v, rfl, fun k hk => ⟨⟨trivial, ?_⟩, ?_⟩, Go.Proofs.Ythapikakneikbaa.lcells ps, by rw [List.length_map]; exact ho, reps_links ps⟩
    · intro e
      rw [hk] at hfar
      exact hfar (e.trans rfl)
    · have hex : ∃ (u : Nat) (v : Value), vs[u]? = some v ∧ v.ownBlock = some k := ⟨j, v, hv, hk⟩
      show (if hk : ∃ (u : Nat) (v : Value), vs[u]? = some v ∧ v.ownBlock = some k then Classical.choose hk else 0) = 0 + j
      rw [dif_pos hex, Nat.zero_add]
      obtain ⟨v', hv', hk'⟩ := Classical.choose_spec hex
      by_cases e : Classical.choose hex = j
      · exact e
      · rcases h.rows.apart _ _ _ _ hv' hv e with h1 | h1
        · rw [hk'] at h1; cases h1
        · exact absurd (hk'.trans hk.symm) h1
end Go.Proofs.YthapikakneikbaaG
namespace Go.Proofs.YthapikakneikbaaG
open Go.RowKit Go.Proofs.YthapikakneikbaaW.PrintWords Go.Proofs.YthapikakneikbaaW.PrintLast Go.Proofs.YthapikakneikbaaW.PrintMore
attribute [local go_sem] max2_int min2_int max_two min_two max_three min_three max_four min_four   -- for this text's walks alone
set_option linter.unusedVariables false
set_option linter.unusedSimpArgs false
def selfstabworld_Net_Tree.f (a0_0 : Int) (l0_1 : List Int) (l0_2 : List Int) (l0_3 : List Int) (a0_4 : Bool) (a0_5 : Bool) (a1 : Int) : Option (List Int × (List (List (S60)))) :=
 if 1 ≤ a1 ∧ a1 ≤ 24 then some ((Go.Proofs.Ythapikakneikbaa.Net.treeG ⟨a0_0, l0_1, l0_2, l0_3, a0_4, a0_5⟩ a1).ids, (Go.Proofs.Ythapikakneikbaa.Net.treeG ⟨a0_0, l0_1, l0_2, l0_3, a0_4, a0_5⟩ a1).ports.map (List.map ofL)) else none
theorem selfstabworld_Net_Tree.calls (a0_0 : Int) (A0_1 : Option Addr) (c0_1 : Nat) (l0_1 : List Int) (A0_2 : Option Addr) (c0_2 : Nat) (l0_2 : List Int) (A0_3 : Option Addr) (c0_3 : Nat) (l0_3 : List Int) (a0_4 : Bool) (a0_5 : Bool) (a1 : Int) (r1 : List Int) (r2 : List (List (S60))) (w : World) (hr0_1 : Kd.C (Kd.int .i64) w A0_1 l0_1.length l0_1) (hc0_1 : l0_1.length ≤ c0_1) (hr0_2 : Kd.C (Kd.int .i64) w A0_2 l0_2.length l0_2) (hc0_2 : l0_2.length ≤ c0_2) (hr0_3 : Kd.C (Kd.int .i64) w A0_3 l0_3.length l0_3) (hc0_3 : l0_3.length ≤ c0_3) (h : selfstabworld_Net_Tree.f a0_0 l0_1 l0_2 l0_3 a0_4 a0_5 a1 = some (r1, r2)) :
  Calls Try.prog 77 #[.agg #[.int .i64 a0_0, .slice A0_1 l0_1.length c0_1, .slice A0_2 l0_2.length c0_2, .slice A0_3 l0_3.length c0_3, .bool a0_4, .bool a0_5], .int .i64 a1] w fun e w' => ∃ v0_ v1_ : Value, e = .returned (.agg #[v0_, v1_]) ∧ Kd.R (Kd.int .i64) 3 w' w.heap.size (fun _ => True) v0_ r1 ∧ Kd.S (Kd.slice 60 k60) 52 w' w.heap.size (fun _ => True) v1_ r2 ∧ Below w.heap.size w w' := by
 unfold selfstabworld_Net_Tree.f at h
 by_cases hm : 1 ≤ a1 ∧ a1 ≤ 24
 ·
  rw [if_pos hm] at h
  injection h with h
  injection h with e1 e2
  have hb := Go.Proofs.Ythapikakneikbaa.Net.n_bd ⟨a0_0, l0_1, l0_2, l0_3, a0_4, a0_5⟩ hm.1
  refine (Go.Proofs.Ythapikakneikbaa.tree_n w ⟨a0_0, l0_1, l0_2, l0_3, a0_4, a0_5⟩ A0_1 A0_2 A0_3 c0_1 c0_2 c0_3 ⟨C_ints hr0_1, C_ints hr0_2, C_ints hr0_3⟩ a1 hm.1 hm.2).mono ?_
  rintro e w' ⟨A, c, P, vs, rfl, ⟨h1, h2, h3⟩, ho, hp, hbl⟩
  subst e1 e2
  exact ⟨_, _, rfl, own_ints h2 ho, own_ports h3 (by omega) hp, hbl⟩
 ·
  rw [if_neg hm] at h
  cases h
end Go.Proofs.YthapikakneikbaaG
namespace Go.Proofs.YthapikakneikbaaG
open Go.RowKit Go.Proofs.YthapikakneikbaaW.PrintWords Go.Proofs.YthapikakneikbaaW.PrintLast Go.Proofs.YthapikakneikbaaW.PrintMore
attribute [local go_sem] max2_int min2_int max_two min_two max_three min_three max_four min_four   -- for this text's walks alone
set_option linter.unusedVariables false
set_option linter.unusedSimpArgs false
def selfstablaw27_known.f (k : Nat)  : Option (Bool) := (selfstabworld_Net_Tree.f 4 (([0, 1, 2] : List Int)) ([] : List Int) ([] : List Int) false false 4).bind fun bt803 => ((some (([(([0] : List Int)), (([1] : List Int)), (([1] : List Int)), (([0] : List Int))] : List (List Int)) : List (List Int))).bind fun y822 => ((center_Legit.f k bt803.1 bt803.2 y822).bind fun t825 => (if t825 = true then ((center_Centers.f k bt803.1 bt803.2 y822).bind fun t826 => (if t826 = 6 then ((center_Legit.f k bt803.1 bt803.2 (([(([0] : List Int)), (([1] : List Int)), (([2] : List Int)), (([0] : List Int))] : List (List Int)))).bind fun t842 => (if t842 = true then (none) else ((center_Claim.f k bt803.1 bt803.2).bind fun bt843 => (some (bt843.2.2.2.1 == 2))))) else (none))) else (none))))
theorem selfstablaw27_known.mono : ∀ k, LeO (selfstablaw27_known.f k ) (selfstablaw27_known.f (k + 1) ) := by
 intro  k
 unfold selfstablaw27_known.f
 repeat' first
   | (with_reducible exact center_Centers.mono _ _ _ _)
   | (with_reducible exact center_Claim.mono _ _ _)
   | (with_reducible exact center_Legit.mono _ _ _ _)
   | (with_reducible exact LeO.refl _)
   | (with_reducible exact LeO.none _)
   | (with_reducible refine LeO.ite ?_ ?_)
   | (with_reducible refine LeO.bind ?_ (fun _ => ?_))
   | exact center_Centers.mono _ _ _ _
   | exact center_Claim.mono _ _ _
   | exact center_Legit.mono _ _ _ _
   | exact LeO.none _
   | refine LeO.ite ?_ ?_
   | refine LeO.bind ?_ (fun _ => ?_)
set_option maxHeartbeats 8000000 in
set_option maxRecDepth 100000 in
theorem selfstablaw27_known.calls (k : Nat)  (r : Bool) (w : World) (h : selfstablaw27_known.f k  = some r) :
  Calls Try.prog 58 #[] w fun e w' => e = .returned (.bool r) ∧ Below w.heap.size w w' := by
 have hu24 := Try.underlying24
 have hu27 := Try.underlying27
 have hu44 := Try.underlying44
 have hfd44_3 : ∀ (x0 x1 x2 x3 x4 : Value) (W : World), (Instr.field 44 (.agg #[x0, x1, x2, x3, x4]) 3).run Try.prog W = .ok (x3) W := by intros; rfl
 have HB := Aside0.mk (Below.refl w.heap.size w)
 have H : ((selfstabworld_Net_Tree.f 4 (([0, 1, 2] : List Int)) ([] : List Int) ([] : List Int) false false 4).bind fun bt803 => ((some (([(([0] : List Int)), (([1] : List Int)), (([1] : List Int)), (([0] : List Int))] : List (List Int)) : List (List Int))).bind fun y822 => ((center_Legit.f k bt803.1 bt803.2 y822).bind fun t825 => (if t825 = true then ((center_Centers.f k bt803.1 bt803.2 y822).bind fun t826 => (if t826 = 6 then ((center_Legit.f k bt803.1 bt803.2 (([(([0] : List Int)), (([1] : List Int)), (([2] : List Int)), (([0] : List Int))] : List (List Int)))).bind fun t842 => (if t842 = true then (none) else ((center_Claim.f k bt803.1 bt803.2).bind fun bt843 => (some (bt843.2.2.2.1 == 2))))) else (none))) else (none))))) = some r := h
 clear h
 obtain ⟨y800, hy800⟩ : ∃ y_ : List Int, y_ = (([0, 1, 2] : List Int)) := ⟨_, rfl⟩
 replace H : ((selfstabworld_Net_Tree.f 4 y800 ([] : List Int) ([] : List Int) false false 4).bind fun bt803 => ((some (([(([0] : List Int)), (([1] : List Int)), (([1] : List Int)), (([0] : List Int))] : List (List Int)) : List (List Int))).bind fun y822 => ((center_Legit.f k bt803.1 bt803.2 y822).bind fun t825 => (if t825 = true then ((center_Centers.f k bt803.1 bt803.2 y822).bind fun t826 => (if t826 = 6 then ((center_Legit.f k bt803.1 bt803.2 (([(([0] : List Int)), (([1] : List Int)), (([2] : List Int)), (([0] : List Int))] : List (List Int)))).bind fun t842 => (if t842 = true then (none) else ((center_Claim.f k bt803.1 bt803.2).bind fun bt843 => (some (bt843.2.2.2.1 == 2))))) else (none))) else (none))))) = some r := by first | (rw [hy800]; with_reducible exact H) | (have H2_ := (Option.bind_some _ _).symm.trans H; rw [hy800]; with_reducible exact H2_) | (have H2_ := (Option.bind_some _ _).symm.trans H; with_reducible exact H2_) | with_reducible exact H | (rw [hy800]; exact H) | exact H
 have Ny800 := Aside0.mk hy800
 clear hy800
 replace H := Option.bind_eq_some_iff.mp H
 obtain ⟨⟨t803, t806⟩, A10, H⟩ := H
 replace H : ((some (([(([0] : List Int)), (([1] : List Int)), (([1] : List Int)), (([0] : List Int))] : List (List Int)) : List (List Int))).bind fun y822 => ((center_Legit.f k t803 t806 y822).bind fun t825 => (if t825 = true then ((center_Centers.f k t803 t806 y822).bind fun t826 => (if t826 = 6 then ((center_Legit.f k t803 t806 (([(([0] : List Int)), (([1] : List Int)), (([2] : List Int)), (([0] : List Int))] : List (List Int)))).bind fun t842 => (if t842 = true then (none) else ((center_Claim.f k t803 t806).bind fun bt843 => (some (bt843.2.2.2.1 == 2))))) else (none))) else (none)))) = some r := H
 have A1 := Aside0.mk A10
 clear A10
 obtain ⟨y810, hy810⟩ : ∃ y_ : List Int, y_ = (([0] : List Int)) := ⟨_, rfl⟩
 replace H : ((some (([y810, (([1] : List Int)), (([1] : List Int)), (([0] : List Int))] : List (List Int)) : List (List Int))).bind fun y822 => ((center_Legit.f k t803 t806 y822).bind fun t825 => (if t825 = true then ((center_Centers.f k t803 t806 y822).bind fun t826 => (if t826 = 6 then ((center_Legit.f k t803 t806 (([(([0] : List Int)), (([1] : List Int)), (([2] : List Int)), (([0] : List Int))] : List (List Int)))).bind fun t842 => (if t842 = true then (none) else ((center_Claim.f k t803 t806).bind fun bt843 => (some (bt843.2.2.2.1 == 2))))) else (none))) else (none)))) = some r := by first | (rw [hy810]; with_reducible exact H) | (have H2_ := (Option.bind_some _ _).symm.trans H; rw [hy810]; with_reducible exact H2_) | (have H2_ := (Option.bind_some _ _).symm.trans H; with_reducible exact H2_) | with_reducible exact H | (rw [hy810]; exact H) | exact H
 have Ny810 := Aside0.mk hy810
 clear hy810
 obtain ⟨y813, hy813⟩ : ∃ y_ : List Int, y_ = (([1] : List Int)) := ⟨_, rfl⟩
 replace H : ((some (([y810, y813, (([1] : List Int)), (([0] : List Int))] : List (List Int)) : List (List Int))).bind fun y822 => ((center_Legit.f k t803 t806 y822).bind fun t825 => (if t825 = true then ((center_Centers.f k t803 t806 y822).bind fun t826 => (if t826 = 6 then ((center_Legit.f k t803 t806 (([(([0] : List Int)), (([1] : List Int)), (([2] : List Int)), (([0] : List Int))] : List (List Int)))).bind fun t842 => (if t842 = true then (none) else ((center_Claim.f k t803 t806).bind fun bt843 => (some (bt843.2.2.2.1 == 2))))) else (none))) else (none)))) = some r := by first | (rw [hy813]; with_reducible exact H) | (have H2_ := (Option.bind_some _ _).symm.trans H; rw [hy813]; with_reducible exact H2_) | (have H2_ := (Option.bind_some _ _).symm.trans H; with_reducible exact H2_) | with_reducible exact H | (rw [hy813]; exact H) | exact H
 have Ny813 := Aside0.mk hy813
 clear hy813
 obtain ⟨y816, hy816⟩ : ∃ y_ : List Int, y_ = (([1] : List Int)) := ⟨_, rfl⟩
 replace H : ((some (([y810, y813, y816, (([0] : List Int))] : List (List Int)) : List (List Int))).bind fun y822 => ((center_Legit.f k t803 t806 y822).bind fun t825 => (if t825 = true then ((center_Centers.f k t803 t806 y822).bind fun t826 => (if t826 = 6 then ((center_Legit.f k t803 t806 (([(([0] : List Int)), (([1] : List Int)), (([2] : List Int)), (([0] : List Int))] : List (List Int)))).bind fun t842 => (if t842 = true then (none) else ((center_Claim.f k t803 t806).bind fun bt843 => (some (bt843.2.2.2.1 == 2))))) else (none))) else (none)))) = some r := by first | (rw [hy816]; with_reducible exact H) | (have H2_ := (Option.bind_some _ _).symm.trans H; rw [hy816]; with_reducible exact H2_) | (have H2_ := (Option.bind_some _ _).symm.trans H; with_reducible exact H2_) | with_reducible exact H | (rw [hy816]; exact H) | exact H
 have Ny816 := Aside0.mk hy816
 clear hy816
 obtain ⟨y819, hy819⟩ : ∃ y_ : List Int, y_ = (([0] : List Int)) := ⟨_, rfl⟩
 replace H : ((some (([y810, y813, y816, y819] : List (List Int)) : List (List Int))).bind fun y822 => ((center_Legit.f k t803 t806 y822).bind fun t825 => (if t825 = true then ((center_Centers.f k t803 t806 y822).bind fun t826 => (if t826 = 6 then ((center_Legit.f k t803 t806 (([(([0] : List Int)), (([1] : List Int)), (([2] : List Int)), (([0] : List Int))] : List (List Int)))).bind fun t842 => (if t842 = true then (none) else ((center_Claim.f k t803 t806).bind fun bt843 => (some (bt843.2.2.2.1 == 2))))) else (none))) else (none)))) = some r := by first | (rw [hy819]; with_reducible exact H) | (have H2_ := (Option.bind_some _ _).symm.trans H; rw [hy819]; with_reducible exact H2_) | (have H2_ := (Option.bind_some _ _).symm.trans H; with_reducible exact H2_) | with_reducible exact H | (rw [hy819]; exact H) | exact H
 have Ny819 := Aside0.mk hy819
 clear hy819
 obtain ⟨y822, hy822⟩ : ∃ y_ : List (List Int), y_ = (([y810, y813, y816, y819] : List (List Int))) := ⟨_, rfl⟩
 replace H : ((center_Legit.f k t803 t806 y822).bind fun t825 => (if t825 = true then ((center_Centers.f k t803 t806 y822).bind fun t826 => (if t826 = 6 then ((center_Legit.f k t803 t806 (([(([0] : List Int)), (([1] : List Int)), (([2] : List Int)), (([0] : List Int))] : List (List Int)))).bind fun t842 => (if t842 = true then (none) else ((center_Claim.f k t803 t806).bind fun bt843 => (some (bt843.2.2.2.1 == 2))))) else (none))) else (none))) = some r := by first | (rw [hy822]; with_reducible exact H) | (have H2_ := (Option.bind_some _ _).symm.trans H; rw [hy822]; with_reducible exact H2_) | (have H2_ := (Option.bind_some _ _).symm.trans H; with_reducible exact H2_) | with_reducible exact H | (rw [hy822]; exact H) | exact H
 have Ny822 := Aside0.mk hy822
 clear hy822
 replace H := Option.bind_eq_some_iff.mp H
 obtain ⟨t825, A20, H⟩ := H
 replace H : (if t825 = true then ((center_Centers.f k t803 t806 y822).bind fun t826 => (if t826 = 6 then ((center_Legit.f k t803 t806 (([(([0] : List Int)), (([1] : List Int)), (([2] : List Int)), (([0] : List Int))] : List (List Int)))).bind fun t842 => (if t842 = true then (none) else ((center_Claim.f k t803 t806).bind fun bt843 => (some (bt843.2.2.2.1 == 2))))) else (none))) else (none)) = some r := H
 have A2 := Aside0.mk A20
 clear A20
 by_cases c3 : t825 = true
 ·
  subst c3
  have H1 : ((center_Centers.f k t803 t806 y822).bind fun t826 => (if t826 = 6 then ((center_Legit.f k t803 t806 (([(([0] : List Int)), (([1] : List Int)), (([2] : List Int)), (([0] : List Int))] : List (List Int)))).bind fun t842 => (if t842 = true then (none) else ((center_Claim.f k t803 t806).bind fun bt843 => (some (bt843.2.2.2.1 == 2))))) else (none))) = some r := by rw [if_pos rfl] at H; exact H
  clear H
  have H := H1
  clear H1
  replace H := Option.bind_eq_some_iff.mp H
  obtain ⟨t826, A40, H⟩ := H
  replace H : (if t826 = 6 then ((center_Legit.f k t803 t806 (([(([0] : List Int)), (([1] : List Int)), (([2] : List Int)), (([0] : List Int))] : List (List Int)))).bind fun t842 => (if t842 = true then (none) else ((center_Claim.f k t803 t806).bind fun bt843 => (some (bt843.2.2.2.1 == 2))))) else (none)) = some r := H
  have A4 := Aside0.mk A40
  clear A40
  by_cases c5 : t826 = 6
  ·
   rw [if_pos c5] at H
   have c5b0 : (t826 == 6) = true := beq_iff_eq.mpr c5
   have c5b1 : (t826 != 6) = false := bne_eq_false_iff_eq.mpr c5
   clear c5
   obtain ⟨y827, hy827⟩ : ∃ y_ : List Int, y_ = (([0] : List Int)) := ⟨_, rfl⟩
   replace H : ((center_Legit.f k t803 t806 (([y827, (([1] : List Int)), (([2] : List Int)), (([0] : List Int))] : List (List Int)))).bind fun t842 => (if t842 = true then (none) else ((center_Claim.f k t803 t806).bind fun bt843 => (some (bt843.2.2.2.1 == 2))))) = some r := by first | (rw [hy827]; with_reducible exact H) | (have H2_ := (Option.bind_some _ _).symm.trans H; rw [hy827]; with_reducible exact H2_) | (have H2_ := (Option.bind_some _ _).symm.trans H; with_reducible exact H2_) | with_reducible exact H | (rw [hy827]; exact H) | exact H
   have Ny827 := Aside0.mk hy827
   clear hy827
   obtain ⟨y830, hy830⟩ : ∃ y_ : List Int, y_ = (([1] : List Int)) := ⟨_, rfl⟩
   replace H : ((center_Legit.f k t803 t806 (([y827, y830, (([2] : List Int)), (([0] : List Int))] : List (List Int)))).bind fun t842 => (if t842 = true then (none) else ((center_Claim.f k t803 t806).bind fun bt843 => (some (bt843.2.2.2.1 == 2))))) = some r := by first | (rw [hy830]; with_reducible exact H) | (have H2_ := (Option.bind_some _ _).symm.trans H; rw [hy830]; with_reducible exact H2_) | (have H2_ := (Option.bind_some _ _).symm.trans H; with_reducible exact H2_) | with_reducible exact H | (rw [hy830]; exact H) | exact H
   have Ny830 := Aside0.mk hy830
   clear hy830
   obtain ⟨y833, hy833⟩ : ∃ y_ : List Int, y_ = (([2] : List Int)) := ⟨_, rfl⟩
   replace H : ((center_Legit.f k t803 t806 (([y827, y830, y833, (([0] : List Int))] : List (List Int)))).bind fun t842 => (if t842 = true then (none) else ((center_Claim.f k t803 t806).bind fun bt843 => (some (bt843.2.2.2.1 == 2))))) = some r := by first | (rw [hy833]; with_reducible exact H) | (have H2_ := (Option.bind_some _ _).symm.trans H; rw [hy833]; with_reducible exact H2_) | (have H2_ := (Option.bind_some _ _).symm.trans H; with_reducible exact H2_) | with_reducible exact H | (rw [hy833]; exact H) | exact H
   have Ny833 := Aside0.mk hy833
   clear hy833
   obtain ⟨y836, hy836⟩ : ∃ y_ : List Int, y_ = (([0] : List Int)) := ⟨_, rfl⟩
   replace H : ((center_Legit.f k t803 t806 (([y827, y830, y833, y836] : List (List Int)))).bind fun t842 => (if t842 = true then (none) else ((center_Claim.f k t803 t806).bind fun bt843 => (some (bt843.2.2.2.1 == 2))))) = some r := by first | (rw [hy836]; with_reducible exact H) | (have H2_ := (Option.bind_some _ _).symm.trans H; rw [hy836]; with_reducible exact H2_) | (have H2_ := (Option.bind_some _ _).symm.trans H; with_reducible exact H2_) | with_reducible exact H | (rw [hy836]; exact H) | exact H
   have Ny836 := Aside0.mk hy836
   clear hy836
   obtain ⟨y839, hy839⟩ : ∃ y_ : List (List Int), y_ = (([y827, y830, y833, y836] : List (List Int))) := ⟨_, rfl⟩
   replace H : ((center_Legit.f k t803 t806 y839).bind fun t842 => (if t842 = true then (none) else ((center_Claim.f k t803 t806).bind fun bt843 => (some (bt843.2.2.2.1 == 2))))) = some r := by first | (rw [hy839]; with_reducible exact H) | (have H2_ := (Option.bind_some _ _).symm.trans H; rw [hy839]; with_reducible exact H2_) | (have H2_ := (Option.bind_some _ _).symm.trans H; with_reducible exact H2_) | with_reducible exact H | (rw [hy839]; exact H) | exact H
   have Ny839 := Aside0.mk hy839
   clear hy839
   replace H := Option.bind_eq_some_iff.mp H
   obtain ⟨t842, A60, H⟩ := H
   replace H : (if t842 = true then (none) else ((center_Claim.f k t803 t806).bind fun bt843 => (some (bt843.2.2.2.1 == 2)))) = some r := H
   have A6 := Aside0.mk A60
   clear A60
   by_cases c7 : t842 = true
   ·
    subst c7
    have H1 : (none) = some r := by rw [if_pos rfl] at H; exact H
    clear H
    have H := H1
    clear H1
    exact absurd H (by simp)
   ·
    replace c7 := Bool.eq_false_iff.mpr c7
    subst c7
    have H1 : ((center_Claim.f k t803 t806).bind fun bt843 => (some (bt843.2.2.2.1 == 2))) = some r := by rw [if_neg (show ¬ (false = true) by decide)] at H; exact H
    clear H
    have H := H1
    clear H1
    replace H := Option.bind_eq_some_iff.mp H
    obtain ⟨⟨t843, t844, t845, t846, t847⟩, A80, H⟩ := H
    replace H : (some (t846 == 2)) = some r := H
    have A8 := Aside0.mk A80
    clear A80
    obtain rfl := Option.some.inj H
    go_enter Try.func58, Try.ntmps58
    go_wp2_with (first | ((with_reducible refine gate_dst (N := 3) rfl ?_); (try (refine gate_guard (by rfl) ?_; dsimp only)); refine Kd.R_lit (Kd.int .i64) _ 3 ?hg (N := 3) ?hd (xs := ([0, 1, 2] : List Int)) (inner := [.int .i64 0, .int .i64 1, .int .i64 2]) (ok := fun _ => True) (okp := fun _ => True) ?hr ?hp (fun _ hk => hk) trivial (Below.refl _ _) (Nat.le_refl _) (by simp) ?_; (case hd => rfl); (case hg => rfl); (case hr => first | (go_simp; done) | (go_simp; rfl)); (case hp => exact (Reps.one (show Kd.M (Kd.int .i64) _ _ _ 0 [.int .i64 0] from rfl) (Reps.one (show Kd.M (Kd.int .i64) _ _ _ 1 [.int .i64 1] from rfl) (Reps.one (show Kd.M (Kd.int .i64) _ _ _ 2 [.int .i64 2] from rfl) (Reps.none _ _))))); intro v801 w9 ho10 hb hg_ hnew_; clear hg_ hnew_; (first | rw [← Ny800.out] at ho10 | (simp only [Int.reduceToNat] at ho10; rw [← Ny800.out] at ho10)); have n0_ := Aside0.mk (Kd.R_lower ho10 (below_size (by repeat (first | (with_reducible first | exact HB.out | apply below_alloc | apply pw_below_drewN | apply below_drew1) | exact HB.out)))); have n1_ := Aside0.mk (below_step (by repeat (first | (with_reducible first | exact HB.out | apply below_alloc | apply pw_below_drewN | apply below_drew1) | exact HB.out)) hb); clear HB; have HO802 := n0_; have HB := n1_; clear n0_ n1_; clear hb ho10; obtain ⟨Ao11, co11, eo11⟩ := Kd.R_slice HO802.out; subst eo11) | ((with_reducible refine gate_callee (f := 77) rfl ?_); refine goesL_ (some 5) rfl rfl Try.func77 (by kernel_rfl) rfl #[.agg #[.int .i64 4, .slice Ao11 y800.length co11, .slice none 0 0, .slice none 0 0, .bool false, .bool false], .int .i64 4] rfl (by (try simp only [List.map_toArray, List.map_cons, List.map_nil]); first | done | rfl | (simp only [List.length_drop, List.length_take]; rfl)) ?_; (refine (selfstabworld_Net_Tree.calls 4 _ _ y800 _ _ ([] : List Int) _ _ ([] : List Int) false false 4 t803 t806 _ ?side1 ?side2 ?side3 ?side4 ?side5 ?side6 A1.out).mono ?_); (case side1 => repeat (first | exact (Kd.R_reads' HO802.out).2.2 | (with_reducible refine Kd.C_alloc ?_ _) | (with_reducible refine Kd.C_drewN ?_ _) | (with_reducible refine Kd.C_drew ?_))); (case side2 => exact (Kd.R_reads' HO802.out).2.1); (case side3 => exact Kd.C_nil _ _); (case side4 => exact Nat.le_refl _); (case side5 => exact Kd.C_nil _ _); (case side6 => exact Nat.le_refl _); rintro e w12 ⟨v804, v807, rfl, ho0, ho1, hb⟩; refine ⟨_, rfl, ?_⟩; have n0_ := Aside0.mk (Kd.R_elder' (by (with_reducible repeat (first | apply Kd.R_alloc | apply Kd.R_drewN | apply Kd.R_drew)); exact HO802.out) (Kd.R_base ho0) hb); have n1_ := Aside0.mk (Kd.R_lower (Kd.R_new' ho0 (Kd.R_lt (by (with_reducible repeat (first | apply Kd.R_alloc | apply Kd.R_drewN | apply Kd.R_drew)); exact HO802.out))) (below_size (by repeat (first | (with_reducible first | exact HB.out | apply below_alloc | apply pw_below_drewN | apply below_drew1) | exact HB.out)))); have n2_ := Aside0.mk (Kd.N_lower (Kd.N_mono (ok' := fun k_ => some k_ ≠ (v804 : Value).ownBlock ∧ some k_ ≠ (.slice Ao11 y800.length co11 : Value).ownBlock) (Kd.S_N (Kd.S_bound (Kd.S_apart' ho1 (Kd.R_typed ho0) (by decide)))) (fun k_ hk_ => ⟨hk_.1.2, (Kd.fresh' (Kd.R_lt (by (with_reducible repeat (first | apply Kd.R_alloc | apply Kd.R_drewN | apply Kd.R_drew)); exact HO802.out)) k_ hk_.2.1)⟩)) (below_size (by repeat (first | (with_reducible first | exact HB.out | apply below_alloc | apply pw_below_drewN | apply below_drew1) | exact HB.out)))); have n3_ := Aside0.mk (below_step (by repeat (first | (with_reducible first | exact HB.out | apply below_alloc | apply pw_below_drewN | apply below_drew1) | exact HB.out)) hb); clear HO802; clear HB; have HO802 := n0_; have HO805 := n1_; have HO808 := n2_; have HB := n3_; clear n0_ n1_ n2_ n3_; (try clear hb); (try clear hb2); (try clear hk); (try clear hi); (try clear ho0); (try clear ho1)) | ((with_reducible refine gate_dst (N := 1) rfl ?_); (try (refine gate_guard (by rfl) ?_; dsimp only)); refine box_event ?hg (N := 1) ?hd (cs := #[.slice none 0 0, .slice none 0 0]) (t := 27) ?hr ?_; (case hd => rfl); (case hg => rfl); (case hr => first | (go_simp; done) | (go_simp; rfl)); intro gb809 hg w13 hbox hb; have n0_ := Aside0.mk (Kd.R_below (by (with_reducible repeat (first | apply Kd.R_alloc | apply Kd.R_drewN | apply Kd.R_drew)); exact HO802.out) hb); have n1_ := Aside0.mk (Kd.R_below (by (with_reducible repeat (first | apply Kd.R_alloc | apply Kd.R_drewN | apply Kd.R_drew)); exact HO805.out) hb); have n2_ := Aside0.mk (Kd.N_below (Kd.N_elderB (by (with_reducible repeat (first | apply Kd.N_alloc | apply Kd.N_drewN | apply Kd.N_drew)); exact HO808.out) gb809 (Nat.le_of_eq hg.symm)) hb); have n3_ := Aside0.mk (below_step (by repeat (first | (with_reducible first | exact HB.out | apply below_alloc | apply pw_below_drewN | apply below_drew1) | exact HB.out)) hb); have n4_ := Aside0.mk (hbox); have n5_ := Aside0.mk ((by rw [hg]; exact (below_size (by repeat (first | (with_reducible first | exact HB.out | apply below_alloc | apply pw_below_drewN | apply below_drew1) | exact HB.out))) : w.heap.size ≤ gb809)); have n6_ := Aside0.mk ((by rw [hg]; exact (below_size (by repeat (first | (with_reducible first | exact HB.out | apply below_alloc | apply pw_below_drewN | apply below_drew1) | exact HB.out))) : w.heap.size ≤ gb809)); clear HO802; clear HO805; clear HO808; clear HB; have HO802 := n0_; have HO805 := n1_; have HO808 := n2_; have HB := n3_; have BK809 := n4_; have GW809 := n5_; have GE809 := n6_; clear n0_ n1_ n2_ n3_ n4_ n5_ n6_; clear hb hbox hg; obtain ⟨Ao14, co14, eo14⟩ := Kd.R_slice HO805.out; subst eo14; have hcz15_0 : w13.cell? ⟨gb809, 0, none⟩ = some (.slice none 0 0) := (blk_cell BK809.out 0).trans rfl; have hcz15_1 : w13.cell? ⟨gb809, 1, none⟩ = some (.slice none 0 0) := (blk_cell BK809.out 1).trans rfl; have hfz15_0 := blk_frozen BK809.out 0; have hfz15_1 := blk_frozen BK809.out 1; obtain ⟨Ao16, co16, eo16⟩ := Kd.N_slice HO808.out; subst eo16) | ((with_reducible refine gate_dst (N := 6) rfl ?_); (try (refine gate_guard (by rfl) ?_; dsimp only)); refine Kd.R_lit (Kd.int .i64) _ 3 ?hg (N := 6) ?hd (xs := ([0] : List Int)) (inner := [.int .i64 0]) (ok := fun _ => True) (okp := fun _ => True) ?hr ?hp (fun _ hk => hk) trivial (Below.refl _ _) (Nat.le_refl _) (by simp) ?_; (case hd => rfl); (case hg => rfl); (case hr => first | (go_simp; done) | (go_simp; rfl)); (case hp => exact (Reps.one (show Kd.M (Kd.int .i64) _ _ _ 0 [.int .i64 0] from rfl) (Reps.none _ _))); intro v811 w17 ho18 hb hg_ hnew_; clear hg_ hnew_; (first | rw [← Ny810.out] at ho18 | (simp only [Int.reduceToNat] at ho18; rw [← Ny810.out] at ho18)); have n0_ := Aside0.mk (Kd.R_elder' (by (with_reducible repeat (first | apply Kd.R_alloc | apply Kd.R_drewN | apply Kd.R_drew)); exact (Kd.R_mono (Kd.R_far (p := ⟨gb809, 1, none⟩) (Kd.R_far (p := ⟨gb809, 0, none⟩) (Kd.R_types HO802.out BK809.out (by decide)) (fun _ hk => hk.2) (.slice Ao14 t803.length co14)) (fun _ hk => hk.2) (.slice Ao16 t806.length co16)) (fun _ h_ => h_.1))) (Kd.R_base ho18) hb); have n1_ := Aside0.mk (Kd.R_elder' (by (with_reducible repeat (first | apply Kd.R_alloc | apply Kd.R_drewN | apply Kd.R_drew)); exact (Kd.R_mono (Kd.R_far (p := ⟨gb809, 1, none⟩) (Kd.R_far (p := ⟨gb809, 0, none⟩) (Kd.R_types HO805.out BK809.out (by decide)) (fun _ hk => hk.2) (.slice Ao14 t803.length co14)) (fun _ hk => hk.2) (.slice Ao16 t806.length co16)) (fun _ h_ => h_.1))) (Kd.R_base ho18) hb); have n2_ := Aside0.mk (Kd.N_elder' (by (with_reducible repeat (first | apply Kd.N_alloc | apply Kd.N_drewN | apply Kd.N_drew)); exact (Kd.N_mono (Kd.N_far (p := ⟨gb809, 1, none⟩) (Kd.N_far (p := ⟨gb809, 0, none⟩) (Kd.N_mono HO808.out (fun k_ hk => (⟨hk, hk.2⟩ : _ ∧ k_ ≠ gb809))) (fun _ hk => hk.2) (.slice Ao14 t803.length co14)) (fun _ hk => hk.2) (.slice Ao16 t806.length co16)) (fun _ h_ => h_.1))) (Kd.R_base ho18) hb); have n3_ := Aside0.mk (Kd.R_lower (Kd.R_new' (Kd.R_new' ho18 (Kd.R_lt (by (with_reducible repeat (first | apply Kd.R_alloc | apply Kd.R_drewN | apply Kd.R_drew)); exact (Kd.R_mono (Kd.R_far (p := ⟨gb809, 1, none⟩) (Kd.R_far (p := ⟨gb809, 0, none⟩) (Kd.R_types HO802.out BK809.out (by decide)) (fun _ hk => hk.2) (.slice Ao14 t803.length co14)) (fun _ hk => hk.2) (.slice Ao16 t806.length co16)) (fun _ h_ => h_.1))))) (Kd.R_lt (by (with_reducible repeat (first | apply Kd.R_alloc | apply Kd.R_drewN | apply Kd.R_drew)); exact (Kd.R_mono (Kd.R_far (p := ⟨gb809, 1, none⟩) (Kd.R_far (p := ⟨gb809, 0, none⟩) (Kd.R_types HO805.out BK809.out (by decide)) (fun _ hk => hk.2) (.slice Ao14 t803.length co14)) (fun _ hk => hk.2) (.slice Ao16 t806.length co16)) (fun _ h_ => h_.1))))) (below_size (by repeat (first | (with_reducible first | exact HB.out | apply below_alloc | apply pw_below_drewN | apply below_drew1 | refine below_set ?_ GE809.out) | exact HB.out)))); have n4_ := Aside0.mk (blk_below (g := gb809) (o := .cells #[.slice Ao14 t803.length co14, .slice Ao16 t806.length co16] 27 (0, 0)) (by (with_reducible repeat (first | refine blk_drewN ?_ _ | refine blk_drew ?_ | refine blk_alloc ?_ _)); refine blk_put (cs := #[.slice Ao14 t803.length co14, .slice none 0 0]) ?_ 1 _ rfl; (with_reducible repeat (first | refine blk_drewN ?_ _ | refine blk_drew ?_ | refine blk_alloc ?_ _)); refine blk_put (cs := #[.slice none 0 0, .slice none 0 0]) ?_ 0 _ rfl; (with_reducible repeat (first | refine blk_drewN ?_ _ | refine blk_drew ?_ | refine blk_alloc ?_ _)); exact BK809.out) hb); have n5_ := Aside0.mk (below_step (by repeat (first | (with_reducible first | exact HB.out | apply below_alloc | apply pw_below_drewN | apply below_drew1 | refine below_set ?_ GE809.out) | exact HB.out)) hb); clear HO802; clear HO805; clear HO808; clear BK809; clear HB; have HO802 := n0_; have HO805 := n1_; have HO808 := n2_; have HO812 := n3_; have BK809 := n4_; have HB := n5_; clear n0_ n1_ n2_ n3_ n4_ n5_; clear hb ho18) | ((with_reducible refine gate_dst (N := 7) rfl ?_); (try (refine gate_guard (by rfl) ?_; dsimp only)); refine Kd.R_lit (Kd.int .i64) _ 3 ?hg (N := 7) ?hd (xs := ([1] : List Int)) (inner := [.int .i64 1]) (ok := fun _ => True) (okp := fun _ => True) ?hr ?hp (fun _ hk => hk) trivial (Below.refl _ _) (Nat.le_refl _) (by simp) ?_; (case hd => rfl); (case hg => rfl); (case hr => first | (go_simp; done) | (go_simp; rfl)); (case hp => exact (Reps.one (show Kd.M (Kd.int .i64) _ _ _ 1 [.int .i64 1] from rfl) (Reps.none _ _))); intro v814 w19 ho20 hb hg_ hnew_; clear hg_ hnew_; (first | rw [← Ny813.out] at ho20 | (simp only [Int.reduceToNat] at ho20; rw [← Ny813.out] at ho20)); have n0_ := Aside0.mk (Kd.R_elder' (by (with_reducible repeat (first | apply Kd.R_alloc | apply Kd.R_drewN | apply Kd.R_drew)); exact HO802.out) (Kd.R_base ho20) hb); have n1_ := Aside0.mk (Kd.R_elder' (by (with_reducible repeat (first | apply Kd.R_alloc | apply Kd.R_drewN | apply Kd.R_drew)); exact HO805.out) (Kd.R_base ho20) hb); have n2_ := Aside0.mk (Kd.N_elder' (by (with_reducible repeat (first | apply Kd.N_alloc | apply Kd.N_drewN | apply Kd.N_drew)); exact HO808.out) (Kd.R_base ho20) hb); have n3_ := Aside0.mk (Kd.R_elder' (by (with_reducible repeat (first | apply Kd.R_alloc | apply Kd.R_drewN | apply Kd.R_drew)); exact HO812.out) (Kd.R_base ho20) hb); have n4_ := Aside0.mk (Kd.R_lower (Kd.R_new' (Kd.R_new' (Kd.R_new' ho20 (Kd.R_lt (by (with_reducible repeat (first | apply Kd.R_alloc | apply Kd.R_drewN | apply Kd.R_drew)); exact HO802.out))) (Kd.R_lt (by (with_reducible repeat (first | apply Kd.R_alloc | apply Kd.R_drewN | apply Kd.R_drew)); exact HO805.out))) (Kd.R_lt (by (with_reducible repeat (first | apply Kd.R_alloc | apply Kd.R_drewN | apply Kd.R_drew)); exact HO812.out))) (below_size (by repeat (first | (with_reducible first | exact HB.out | apply below_alloc | apply pw_below_drewN | apply below_drew1 | refine below_set ?_ GE809.out) | exact HB.out)))); have n5_ := Aside0.mk (blk_below (g := gb809) (o := .cells #[.slice Ao14 t803.length co14, .slice Ao16 t806.length co16] 27 (0, 0)) (by (with_reducible repeat (first | refine blk_drewN ?_ _ | refine blk_drew ?_ | refine blk_alloc ?_ _)); exact BK809.out) hb); have n6_ := Aside0.mk (below_step (by repeat (first | (with_reducible first | exact HB.out | apply below_alloc | apply pw_below_drewN | apply below_drew1 | refine below_set ?_ GE809.out) | exact HB.out)) hb); clear HO802; clear HO805; clear HO808; clear HO812; clear BK809; clear HB; have HO802 := n0_; have HO805 := n1_; have HO808 := n2_; have HO812 := n3_; have HO815 := n4_; have BK809 := n5_; have HB := n6_; clear n0_ n1_ n2_ n3_ n4_ n5_ n6_; clear hb ho20) | ((with_reducible refine gate_dst (N := 8) rfl ?_); (try (refine gate_guard (by rfl) ?_; dsimp only)); refine Kd.R_lit (Kd.int .i64) _ 3 ?hg (N := 8) ?hd (xs := ([1] : List Int)) (inner := [.int .i64 1]) (ok := fun _ => True) (okp := fun _ => True) ?hr ?hp (fun _ hk => hk) trivial (Below.refl _ _) (Nat.le_refl _) (by simp) ?_; (case hd => rfl); (case hg => rfl); (case hr => first | (go_simp; done) | (go_simp; rfl)); (case hp => exact (Reps.one (show Kd.M (Kd.int .i64) _ _ _ 1 [.int .i64 1] from rfl) (Reps.none _ _))); intro v817 w21 ho22 hb hg_ hnew_; clear hg_ hnew_; (first | rw [← Ny816.out] at ho22 | (simp only [Int.reduceToNat] at ho22; rw [← Ny816.out] at ho22)); have n0_ := Aside0.mk (Kd.R_elder' (by (with_reducible repeat (first | apply Kd.R_alloc | apply Kd.R_drewN | apply Kd.R_drew)); exact HO802.out) (Kd.R_base ho22) hb); have n1_ := Aside0.mk (Kd.R_elder' (by (with_reducible repeat (first | apply Kd.R_alloc | apply Kd.R_drewN | apply Kd.R_drew)); exact HO805.out) (Kd.R_base ho22) hb); have n2_ := Aside0.mk (Kd.N_elder' (by (with_reducible repeat (first | apply Kd.N_alloc | apply Kd.N_drewN | apply Kd.N_drew)); exact HO808.out) (Kd.R_base ho22) hb); have n3_ := Aside0.mk (Kd.R_elder' (by (with_reducible repeat (first | apply Kd.R_alloc | apply Kd.R_drewN | apply Kd.R_drew)); exact HO812.out) (Kd.R_base ho22) hb); have n4_ := Aside0.mk (Kd.R_elder' (by (with_reducible repeat (first | apply Kd.R_alloc | apply Kd.R_drewN | apply Kd.R_drew)); exact HO815.out) (Kd.R_base ho22) hb); have n5_ := Aside0.mk (Kd.R_lower (Kd.R_new' (Kd.R_new' (Kd.R_new' (Kd.R_new' ho22 (Kd.R_lt (by (with_reducible repeat (first | apply Kd.R_alloc | apply Kd.R_drewN | apply Kd.R_drew)); exact HO802.out))) (Kd.R_lt (by (with_reducible repeat (first | apply Kd.R_alloc | apply Kd.R_drewN | apply Kd.R_drew)); exact HO805.out))) (Kd.R_lt (by (with_reducible repeat (first | apply Kd.R_alloc | apply Kd.R_drewN | apply Kd.R_drew)); exact HO812.out))) (Kd.R_lt (by (with_reducible repeat (first | apply Kd.R_alloc | apply Kd.R_drewN | apply Kd.R_drew)); exact HO815.out))) (below_size (by repeat (first | (with_reducible first | exact HB.out | apply below_alloc | apply pw_below_drewN | apply below_drew1 | refine below_set ?_ GE809.out) | exact HB.out)))); have n6_ := Aside0.mk (blk_below (g := gb809) (o := .cells #[.slice Ao14 t803.length co14, .slice Ao16 t806.length co16] 27 (0, 0)) (by (with_reducible repeat (first | refine blk_drewN ?_ _ | refine blk_drew ?_ | refine blk_alloc ?_ _)); exact BK809.out) hb); have n7_ := Aside0.mk (below_step (by repeat (first | (with_reducible first | exact HB.out | apply below_alloc | apply pw_below_drewN | apply below_drew1 | refine below_set ?_ GE809.out) | exact HB.out)) hb); clear HO802; clear HO805; clear HO808; clear HO812; clear HO815; clear BK809; clear HB; have HO802 := n0_; have HO805 := n1_; have HO808 := n2_; have HO812 := n3_; have HO815 := n4_; have HO818 := n5_; have BK809 := n6_; have HB := n7_; clear n0_ n1_ n2_ n3_ n4_ n5_ n6_ n7_; clear hb ho22) | ((with_reducible refine gate_dst (N := 9) rfl ?_); (try (refine gate_guard (by rfl) ?_; dsimp only)); refine Kd.R_lit (Kd.int .i64) _ 3 ?hg (N := 9) ?hd (xs := ([0] : List Int)) (inner := [.int .i64 0]) (ok := fun _ => True) (okp := fun _ => True) ?hr ?hp (fun _ hk => hk) trivial (Below.refl _ _) (Nat.le_refl _) (by simp) ?_; (case hd => rfl); (case hg => rfl); (case hr => first | (go_simp; done) | (go_simp; rfl)); (case hp => exact (Reps.one (show Kd.M (Kd.int .i64) _ _ _ 0 [.int .i64 0] from rfl) (Reps.none _ _))); intro v820 w23 ho24 hb hg_ hnew_; clear hg_ hnew_; (first | rw [← Ny819.out] at ho24 | (simp only [Int.reduceToNat] at ho24; rw [← Ny819.out] at ho24)); have n0_ := Aside0.mk (Kd.R_elder' (by (with_reducible repeat (first | apply Kd.R_alloc | apply Kd.R_drewN | apply Kd.R_drew)); exact HO802.out) (Kd.R_base ho24) hb); have n1_ := Aside0.mk (Kd.R_elder' (by (with_reducible repeat (first | apply Kd.R_alloc | apply Kd.R_drewN | apply Kd.R_drew)); exact HO805.out) (Kd.R_base ho24) hb); have n2_ := Aside0.mk (Kd.N_elder' (by (with_reducible repeat (first | apply Kd.N_alloc | apply Kd.N_drewN | apply Kd.N_drew)); exact HO808.out) (Kd.R_base ho24) hb); have n3_ := Aside0.mk (Kd.R_elder' (by (with_reducible repeat (first | apply Kd.R_alloc | apply Kd.R_drewN | apply Kd.R_drew)); exact HO812.out) (Kd.R_base ho24) hb); have n4_ := Aside0.mk (Kd.R_elder' (by (with_reducible repeat (first | apply Kd.R_alloc | apply Kd.R_drewN | apply Kd.R_drew)); exact HO815.out) (Kd.R_base ho24) hb); have n5_ := Aside0.mk (Kd.R_elder' (by (with_reducible repeat (first | apply Kd.R_alloc | apply Kd.R_drewN | apply Kd.R_drew)); exact HO818.out) (Kd.R_base ho24) hb); have n6_ := Aside0.mk (Kd.R_lower (Kd.R_new' (Kd.R_new' (Kd.R_new' (Kd.R_new' (Kd.R_new' ho24 (Kd.R_lt (by (with_reducible repeat (first | apply Kd.R_alloc | apply Kd.R_drewN | apply Kd.R_drew)); exact HO802.out))) (Kd.R_lt (by (with_reducible repeat (first | apply Kd.R_alloc | apply Kd.R_drewN | apply Kd.R_drew)); exact HO805.out))) (Kd.R_lt (by (with_reducible repeat (first | apply Kd.R_alloc | apply Kd.R_drewN | apply Kd.R_drew)); exact HO812.out))) (Kd.R_lt (by (with_reducible repeat (first | apply Kd.R_alloc | apply Kd.R_drewN | apply Kd.R_drew)); exact HO815.out))) (Kd.R_lt (by (with_reducible repeat (first | apply Kd.R_alloc | apply Kd.R_drewN | apply Kd.R_drew)); exact HO818.out))) (below_size (by repeat (first | (with_reducible first | exact HB.out | apply below_alloc | apply pw_below_drewN | apply below_drew1 | refine below_set ?_ GE809.out) | exact HB.out)))); have n7_ := Aside0.mk (blk_below (g := gb809) (o := .cells #[.slice Ao14 t803.length co14, .slice Ao16 t806.length co16] 27 (0, 0)) (by (with_reducible repeat (first | refine blk_drewN ?_ _ | refine blk_drew ?_ | refine blk_alloc ?_ _)); exact BK809.out) hb); have n8_ := Aside0.mk (below_step (by repeat (first | (with_reducible first | exact HB.out | apply below_alloc | apply pw_below_drewN | apply below_drew1 | refine below_set ?_ GE809.out) | exact HB.out)) hb); clear HO802; clear HO805; clear HO808; clear HO812; clear HO815; clear HO818; clear BK809; clear HB; have HO802 := n0_; have HO805 := n1_; have HO808 := n2_; have HO812 := n3_; have HO815 := n4_; have HO818 := n5_; have HO821 := n6_; have BK809 := n7_; have HB := n8_; clear n0_ n1_ n2_ n3_ n4_ n5_ n6_ n7_ n8_; clear hb ho24; obtain ⟨Ao25, co25, eo25⟩ := Kd.R_slice HO812.out; subst eo25; obtain ⟨Ao26, co26, eo26⟩ := Kd.R_slice HO815.out; subst eo26; obtain ⟨Ao27, co27, eo27⟩ := Kd.R_slice HO818.out; subst eo27; obtain ⟨Ao28, co28, eo28⟩ := Kd.R_slice HO821.out; subst eo28) | ((with_reducible refine gate_dst (N := 10) rfl ?_); (try (refine gate_guard (by rfl) ?_; dsimp only)); refine Kd.N_lit (Kd.slice 3 (Kd.int .i64)) _ 22 ?hg (N' := 10) ?hd (xs := ([y810, y813, y816, y819] : List (List Int))) (inner := [.slice Ao25 y810.length co25, .slice Ao26 y813.length co26, .slice Ao27 y816.length co27, .slice Ao28 y819.length co28]) (ok := (fun k_ => some k_ ≠ (.slice Ao11 y800.length co11 : Value).ownBlock ∧ some k_ ≠ (.slice Ao14 t803.length co14 : Value).ownBlock ∧ some k_ ≠ (.slice Ao16 t806.length co16 : Value).ownBlock ∧ k_ ≠ gb809)) (okp := (fun k_ => some k_ ≠ (.slice Ao11 y800.length co11 : Value).ownBlock ∧ some k_ ≠ (.slice Ao14 t803.length co14 : Value).ownBlock ∧ some k_ ≠ (.slice Ao16 t806.length co16 : Value).ownBlock ∧ k_ ≠ gb809)) ?hr ?hp (fun _ hk => hk) ((show ∀ k_, w23.heap.size ≤ k_ → (fun k_ => some k_ ≠ (.slice Ao11 y800.length co11 : Value).ownBlock ∧ some k_ ≠ (.slice Ao14 t803.length co14 : Value).ownBlock ∧ some k_ ≠ (.slice Ao16 t806.length co16 : Value).ownBlock ∧ k_ ≠ gb809) k_ from fun k_ hk => ⟨Kd.fresh' (Kd.R_lt (by (with_reducible repeat (first | apply Kd.R_alloc | apply Kd.R_drewN | apply Kd.R_drew)); exact HO802.out)) k_ hk, Kd.fresh' (Kd.R_lt (by (with_reducible repeat (first | apply Kd.R_alloc | apply Kd.R_drewN | apply Kd.R_drew)); exact HO805.out)) k_ hk, Kd.fresh' (Kd.N_lt (by (with_reducible repeat (first | apply Kd.N_alloc | apply Kd.N_drewN | apply Kd.N_drew)); exact HO808.out)) k_ hk, Kd.freshB (g := gb809) (o := .cells #[.slice Ao14 t803.length co14, .slice Ao16 t806.length co16] 27 (0, 0)) (by (with_reducible repeat (first | refine blk_drewN ?_ _ | refine blk_drew ?_ | refine blk_alloc ?_ _)); exact BK809.out) k_ hk⟩) _ (Nat.le_refl _)) (Below.refl _ _) (Nat.le_refl _) (by simp) ?_; (case hd => rfl); (case hg => rfl); (case hr => first | (go_simp; done) | (go_simp; rfl)); (case hp => exact (Reps.one (show Kd.FK (Kd.slice 3 (Kd.int .i64)) _ _ y810 [.slice Ao25 y810.length co25] from (Kd.FK_slice_mk (Kd.R_reads' (Kd.R_mono (ok' := (fun k_ => some k_ ≠ (.slice Ao11 y800.length co11 : Value).ownBlock ∧ some k_ ≠ (.slice Ao14 t803.length co14 : Value).ownBlock ∧ some k_ ≠ (.slice Ao16 t806.length co16 : Value).ownBlock ∧ k_ ≠ gb809)) (Kd.R_types (Kd.R_apart' (HO812.out) (Kd.N_typed HO808.out) (by decide)) BK809.out (by decide)) (fun k_ hk => ⟨hk.1.1.1.1.1.1.2, ⟨hk.1.1.1.1.1.2, ⟨hk.1.2, hk.2⟩⟩⟩))).2.1 (Kd.R_F (Kd.R_mono (ok' := (fun k_ => some k_ ≠ (.slice Ao11 y800.length co11 : Value).ownBlock ∧ some k_ ≠ (.slice Ao14 t803.length co14 : Value).ownBlock ∧ some k_ ≠ (.slice Ao16 t806.length co16 : Value).ownBlock ∧ k_ ≠ gb809)) (Kd.R_types (Kd.R_apart' (HO812.out) (Kd.N_typed HO808.out) (by decide)) BK809.out (by decide)) (fun k_ hk => ⟨hk.1.1.1.1.1.1.2, ⟨hk.1.1.1.1.1.2, ⟨hk.1.2, hk.2⟩⟩⟩))))) (Reps.one (show Kd.FK (Kd.slice 3 (Kd.int .i64)) _ _ y813 [.slice Ao26 y813.length co26] from (Kd.FK_slice_mk (Kd.R_reads' (Kd.R_mono (ok' := (fun k_ => some k_ ≠ (.slice Ao11 y800.length co11 : Value).ownBlock ∧ some k_ ≠ (.slice Ao14 t803.length co14 : Value).ownBlock ∧ some k_ ≠ (.slice Ao16 t806.length co16 : Value).ownBlock ∧ k_ ≠ gb809)) (Kd.R_types (Kd.R_apart' (HO815.out) (Kd.N_typed HO808.out) (by decide)) BK809.out (by decide)) (fun k_ hk => ⟨hk.1.1.1.1.1.1.2, ⟨hk.1.1.1.1.1.2, ⟨hk.1.2, hk.2⟩⟩⟩))).2.1 (Kd.R_F (Kd.R_mono (ok' := (fun k_ => some k_ ≠ (.slice Ao11 y800.length co11 : Value).ownBlock ∧ some k_ ≠ (.slice Ao14 t803.length co14 : Value).ownBlock ∧ some k_ ≠ (.slice Ao16 t806.length co16 : Value).ownBlock ∧ k_ ≠ gb809)) (Kd.R_types (Kd.R_apart' (HO815.out) (Kd.N_typed HO808.out) (by decide)) BK809.out (by decide)) (fun k_ hk => ⟨hk.1.1.1.1.1.1.2, ⟨hk.1.1.1.1.1.2, ⟨hk.1.2, hk.2⟩⟩⟩))))) (Reps.one (show Kd.FK (Kd.slice 3 (Kd.int .i64)) _ _ y816 [.slice Ao27 y816.length co27] from (Kd.FK_slice_mk (Kd.R_reads' (Kd.R_mono (ok' := (fun k_ => some k_ ≠ (.slice Ao11 y800.length co11 : Value).ownBlock ∧ some k_ ≠ (.slice Ao14 t803.length co14 : Value).ownBlock ∧ some k_ ≠ (.slice Ao16 t806.length co16 : Value).ownBlock ∧ k_ ≠ gb809)) (Kd.R_types (Kd.R_apart' (HO818.out) (Kd.N_typed HO808.out) (by decide)) BK809.out (by decide)) (fun k_ hk => ⟨hk.1.1.1.1.1.1.2, ⟨hk.1.1.1.1.1.2, ⟨hk.1.2, hk.2⟩⟩⟩))).2.1 (Kd.R_F (Kd.R_mono (ok' := (fun k_ => some k_ ≠ (.slice Ao11 y800.length co11 : Value).ownBlock ∧ some k_ ≠ (.slice Ao14 t803.length co14 : Value).ownBlock ∧ some k_ ≠ (.slice Ao16 t806.length co16 : Value).ownBlock ∧ k_ ≠ gb809)) (Kd.R_types (Kd.R_apart' (HO818.out) (Kd.N_typed HO808.out) (by decide)) BK809.out (by decide)) (fun k_ hk => ⟨hk.1.1.1.1.1.1.2, ⟨hk.1.1.1.1.1.2, ⟨hk.1.2, hk.2⟩⟩⟩))))) (Reps.one (show Kd.FK (Kd.slice 3 (Kd.int .i64)) _ _ y819 [.slice Ao28 y819.length co28] from (Kd.FK_slice_mk (Kd.R_reads' (Kd.R_mono (ok' := (fun k_ => some k_ ≠ (.slice Ao11 y800.length co11 : Value).ownBlock ∧ some k_ ≠ (.slice Ao14 t803.length co14 : Value).ownBlock ∧ some k_ ≠ (.slice Ao16 t806.length co16 : Value).ownBlock ∧ k_ ≠ gb809)) (Kd.R_types (Kd.R_apart' (HO821.out) (Kd.N_typed HO808.out) (by decide)) BK809.out (by decide)) (fun k_ hk => ⟨hk.1.1.1.1.1.1.2, ⟨hk.1.1.1.1.1.2, ⟨hk.1.2, hk.2⟩⟩⟩))).2.1 (Kd.R_F (Kd.R_mono (ok' := (fun k_ => some k_ ≠ (.slice Ao11 y800.length co11 : Value).ownBlock ∧ some k_ ≠ (.slice Ao14 t803.length co14 : Value).ownBlock ∧ some k_ ≠ (.slice Ao16 t806.length co16 : Value).ownBlock ∧ k_ ≠ gb809)) (Kd.R_types (Kd.R_apart' (HO821.out) (Kd.N_typed HO808.out) (by decide)) BK809.out (by decide)) (fun k_ hk => ⟨hk.1.1.1.1.1.1.2, ⟨hk.1.1.1.1.1.2, ⟨hk.1.2, hk.2⟩⟩⟩))))) (Reps.none _ _)))))); intro v823 w29 ho30 hb hg_ hnew_; clear hg_ hnew_; (first | rw [← Ny822.out] at ho30 | (simp only [Int.reduceToNat] at ho30; rw [← Ny822.out] at ho30)); have n0_ := Aside0.mk (Kd.R_below (by (with_reducible repeat (first | apply Kd.R_alloc | apply Kd.R_drewN | apply Kd.R_drew)); exact HO802.out) hb); have n1_ := Aside0.mk (Kd.R_below (by (with_reducible repeat (first | apply Kd.R_alloc | apply Kd.R_drewN | apply Kd.R_drew)); exact HO805.out) hb); have n2_ := Aside0.mk (Kd.N_elder' (by (with_reducible repeat (first | apply Kd.N_alloc | apply Kd.N_drewN | apply Kd.N_drew)); exact HO808.out) (Kd.N_base ho30) hb); have n3_ := Aside0.mk (Kd.N_lower ho30 (below_size (by repeat (first | (with_reducible first | exact HB.out | apply below_alloc | apply pw_below_drewN | apply below_drew1 | refine below_set ?_ GE809.out) | exact HB.out)))); have n4_ := Aside0.mk (blk_below (g := gb809) (o := .cells #[.slice Ao14 t803.length co14, .slice Ao16 t806.length co16] 27 (0, 0)) (by (with_reducible repeat (first | refine blk_drewN ?_ _ | refine blk_drew ?_ | refine blk_alloc ?_ _)); exact BK809.out) hb); have n5_ := Aside0.mk (below_step (by repeat (first | (with_reducible first | exact HB.out | apply below_alloc | apply pw_below_drewN | apply below_drew1 | refine below_set ?_ GE809.out) | exact HB.out)) hb); clear HO802; clear HO805; clear HO808; clear BK809; clear HB; clear HO812; clear HO815; clear HO818; clear HO821; have HO802 := n0_; have HO805 := n1_; have HO808 := n2_; have HO824 := n3_; have BK809 := n4_; have HB := n5_; clear n0_ n1_ n2_ n3_ n4_ n5_; clear hb ho30; have hcz31_0 : w29.cell? ⟨gb809, 0, none⟩ = some (.slice Ao14 t803.length co14) := (blk_cell BK809.out 0).trans rfl; have hcz31_1 : w29.cell? ⟨gb809, 1, none⟩ = some (.slice Ao16 t806.length co16) := (blk_cell BK809.out 1).trans rfl; have hfz31_0 := blk_frozen BK809.out 0; have hfz31_1 := blk_frozen BK809.out 1; obtain ⟨Ao32, co32, eo32⟩ := Kd.N_slice HO824.out; subst eo32) | ((with_reducible refine gate_callee (f := 61) rfl ?_); refine goesL_ (some 13) rfl rfl Try.func61 (by kernel_rfl) rfl #[.agg #[.slice Ao14 t803.length co14, .slice Ao16 t806.length co16], .slice Ao32 y822.length co32] rfl (by (try simp only [List.map_toArray, List.map_cons, List.map_nil]); first | done | rfl | (simp only [List.length_drop, List.length_take]; rfl)) ?_; (with_reducible refine (center_Legit.calls k _ _ t803 _ _ t806 _ _ y822 true _ ?side1 ?side2 ?side3 ?side4 ?side5 ?side6 A2.out).mono ?_); (case side1 => repeat (first | exact (Kd.R_reads' HO805.out).2.2 | (with_reducible refine Kd.C_alloc ?_ _) | (with_reducible refine Kd.C_drewN ?_ _) | (with_reducible refine Kd.C_drew ?_))); (case side2 => exact (Kd.R_reads' HO805.out).2.1); (case side3 => repeat (first | exact (Kd.N_reads' HO808.out).2.2 | (with_reducible refine Kd.C_alloc ?_ _) | (with_reducible refine Kd.C_drewN ?_ _) | (with_reducible refine Kd.C_drew ?_))); (case side4 => exact (Kd.N_reads' HO808.out).2.1); (case side5 => repeat (first | exact (Kd.N_reads' HO824.out).2.2 | (with_reducible refine Kd.C_alloc ?_ _) | (with_reducible refine Kd.C_drewN ?_ _) | (with_reducible refine Kd.C_drew ?_))); (case side6 => exact (Kd.N_reads' HO824.out).2.1); rintro e w33 ⟨rfl, hb⟩; refine ⟨_, rfl, ?_⟩; have n0_ := Aside0.mk (Kd.R_below (by (with_reducible repeat (first | apply Kd.R_alloc | apply Kd.R_drewN | apply Kd.R_drew)); exact HO802.out) hb); have n1_ := Aside0.mk (Kd.R_below (by (with_reducible repeat (first | apply Kd.R_alloc | apply Kd.R_drewN | apply Kd.R_drew)); exact HO805.out) hb); have n2_ := Aside0.mk (Kd.N_below (by (with_reducible repeat (first | apply Kd.N_alloc | apply Kd.N_drewN | apply Kd.N_drew)); exact HO808.out) hb); have n3_ := Aside0.mk (Kd.N_below (by (with_reducible repeat (first | apply Kd.N_alloc | apply Kd.N_drewN | apply Kd.N_drew)); exact HO824.out) hb); have n4_ := Aside0.mk (blk_below (g := gb809) (o := .cells #[.slice Ao14 t803.length co14, .slice Ao16 t806.length co16] 27 (0, 0)) (by (with_reducible repeat (first | refine blk_drewN ?_ _ | refine blk_drew ?_ | refine blk_alloc ?_ _)); exact BK809.out) hb); have n5_ := Aside0.mk (below_step (by repeat (first | (with_reducible first | exact HB.out | apply below_alloc | apply pw_below_drewN | apply below_drew1 | refine below_set ?_ GE809.out) | exact HB.out)) hb); clear HO802; clear HO805; clear HO808; clear HO824; clear BK809; clear HB; have HO802 := n0_; have HO805 := n1_; have HO808 := n2_; have HO824 := n3_; have BK809 := n4_; have HB := n5_; clear n0_ n1_ n2_ n3_ n4_ n5_; (try clear hb); (try clear hb2); (try clear hk); (try clear hi); have hcz34_0 : w33.cell? ⟨gb809, 0, none⟩ = some (.slice Ao14 t803.length co14) := (blk_cell BK809.out 0).trans rfl; have hcz34_1 : w33.cell? ⟨gb809, 1, none⟩ = some (.slice Ao16 t806.length co16) := (blk_cell BK809.out 1).trans rfl; have hfz34_0 := blk_frozen BK809.out 0; have hfz34_1 := blk_frozen BK809.out 1) | (go_at_call 65; (with_reducible refine (center_Centers.calls k _ _ t803 _ _ t806 _ _ y822 t826 _ ?side1 ?side2 ?side3 ?side4 ?side5 ?side6 A4.out).mono ?_); (case side1 => repeat (first | exact (Kd.R_reads' HO805.out).2.2 | (with_reducible refine Kd.C_alloc ?_ _) | (with_reducible refine Kd.C_drewN ?_ _) | (with_reducible refine Kd.C_drew ?_))); (case side2 => exact (Kd.R_reads' HO805.out).2.1); (case side3 => repeat (first | exact (Kd.N_reads' HO808.out).2.2 | (with_reducible refine Kd.C_alloc ?_ _) | (with_reducible refine Kd.C_drewN ?_ _) | (with_reducible refine Kd.C_drew ?_))); (case side4 => exact (Kd.N_reads' HO808.out).2.1); (case side5 => repeat (first | exact (Kd.N_reads' HO824.out).2.2 | (with_reducible refine Kd.C_alloc ?_ _) | (with_reducible refine Kd.C_drewN ?_ _) | (with_reducible refine Kd.C_drew ?_))); (case side6 => exact (Kd.N_reads' HO824.out).2.1); rintro e w35 ⟨rfl, hb⟩; have n0_ := Aside0.mk (Kd.R_below (by (with_reducible repeat (first | apply Kd.R_alloc | apply Kd.R_drewN | apply Kd.R_drew)); exact HO802.out) hb); have n1_ := Aside0.mk (Kd.R_below (by (with_reducible repeat (first | apply Kd.R_alloc | apply Kd.R_drewN | apply Kd.R_drew)); exact HO805.out) hb); have n2_ := Aside0.mk (Kd.N_below (by (with_reducible repeat (first | apply Kd.N_alloc | apply Kd.N_drewN | apply Kd.N_drew)); exact HO808.out) hb); have n3_ := Aside0.mk (Kd.N_below (by (with_reducible repeat (first | apply Kd.N_alloc | apply Kd.N_drewN | apply Kd.N_drew)); exact HO824.out) hb); have n4_ := Aside0.mk (blk_below (g := gb809) (o := .cells #[.slice Ao14 t803.length co14, .slice Ao16 t806.length co16] 27 (0, 0)) (by (with_reducible repeat (first | refine blk_drewN ?_ _ | refine blk_drew ?_ | refine blk_alloc ?_ _)); exact BK809.out) hb); have n5_ := Aside0.mk (below_step (by repeat (first | (with_reducible first | exact HB.out | apply below_alloc | apply pw_below_drewN | apply below_drew1 | refine below_set ?_ GE809.out) | exact HB.out)) hb); clear HO802; clear HO805; clear HO808; clear HO824; clear BK809; clear HB; have HO802 := n0_; have HO805 := n1_; have HO808 := n2_; have HO824 := n3_; have BK809 := n4_; have HB := n5_; clear n0_ n1_ n2_ n3_ n4_ n5_; (try clear hb); (try clear hb2); (try clear hk); (try clear hi); have hcz36_0 : w35.cell? ⟨gb809, 0, none⟩ = some (.slice Ao14 t803.length co14) := (blk_cell BK809.out 0).trans rfl; have hcz36_1 : w35.cell? ⟨gb809, 1, none⟩ = some (.slice Ao16 t806.length co16) := (blk_cell BK809.out 1).trans rfl; have hfz36_0 := blk_frozen BK809.out 0; have hfz36_1 := blk_frozen BK809.out 1) | ((with_reducible refine gate_dst (N := 22) rfl ?_); (try (refine gate_guard (by rfl) ?_; dsimp only)); refine Kd.R_lit (Kd.int .i64) _ 3 ?hg (N := 22) ?hd (xs := ([0] : List Int)) (inner := [.int .i64 0]) (ok := fun _ => True) (okp := fun _ => True) ?hr ?hp (fun _ hk => hk) trivial (Below.refl _ _) (Nat.le_refl _) (by simp) ?_; (case hd => rfl); (case hg => rfl); (case hr => first | (go_simp; done) | (go_simp; rfl)); (case hp => exact (Reps.one (show Kd.M (Kd.int .i64) _ _ _ 0 [.int .i64 0] from rfl) (Reps.none _ _))); intro v828 w37 ho38 hb hg_ hnew_; clear hg_ hnew_; (first | rw [← Ny827.out] at ho38 | (simp only [Int.reduceToNat] at ho38; rw [← Ny827.out] at ho38)); have n0_ := Aside0.mk (Kd.R_elder' (by (with_reducible repeat (first | apply Kd.R_alloc | apply Kd.R_drewN | apply Kd.R_drew)); exact HO802.out) (Kd.R_base ho38) hb); have n1_ := Aside0.mk (Kd.R_elder' (by (with_reducible repeat (first | apply Kd.R_alloc | apply Kd.R_drewN | apply Kd.R_drew)); exact HO805.out) (Kd.R_base ho38) hb); have n2_ := Aside0.mk (Kd.N_elder' (by (with_reducible repeat (first | apply Kd.N_alloc | apply Kd.N_drewN | apply Kd.N_drew)); exact HO808.out) (Kd.R_base ho38) hb); have n3_ := Aside0.mk (Kd.N_elder' (by (with_reducible repeat (first | apply Kd.N_alloc | apply Kd.N_drewN | apply Kd.N_drew)); exact HO824.out) (Kd.R_base ho38) hb); have n4_ := Aside0.mk (Kd.R_lower (Kd.R_new' (Kd.R_new' ho38 (Kd.R_lt (by (with_reducible repeat (first | apply Kd.R_alloc | apply Kd.R_drewN | apply Kd.R_drew)); exact HO802.out))) (Kd.R_lt (by (with_reducible repeat (first | apply Kd.R_alloc | apply Kd.R_drewN | apply Kd.R_drew)); exact HO805.out))) (below_size (by repeat (first | (with_reducible first | exact HB.out | apply below_alloc | apply pw_below_drewN | apply below_drew1 | refine below_set ?_ GE809.out) | exact HB.out)))); have n5_ := Aside0.mk (blk_below (g := gb809) (o := .cells #[.slice Ao14 t803.length co14, .slice Ao16 t806.length co16] 27 (0, 0)) (by (with_reducible repeat (first | refine blk_drewN ?_ _ | refine blk_drew ?_ | refine blk_alloc ?_ _)); exact BK809.out) hb); have n6_ := Aside0.mk (below_step (by repeat (first | (with_reducible first | exact HB.out | apply below_alloc | apply pw_below_drewN | apply below_drew1 | refine below_set ?_ GE809.out) | exact HB.out)) hb); clear HO802; clear HO805; clear HO808; clear HO824; clear BK809; clear HB; have HO802 := n0_; have HO805 := n1_; have HO808 := n2_; have HO824 := n3_; have HO829 := n4_; have BK809 := n5_; have HB := n6_; clear n0_ n1_ n2_ n3_ n4_ n5_ n6_; clear hb ho38) | ((with_reducible refine gate_dst (N := 23) rfl ?_); (try (refine gate_guard (by rfl) ?_; dsimp only)); refine Kd.R_lit (Kd.int .i64) _ 3 ?hg (N := 23) ?hd (xs := ([1] : List Int)) (inner := [.int .i64 1]) (ok := fun _ => True) (okp := fun _ => True) ?hr ?hp (fun _ hk => hk) trivial (Below.refl _ _) (Nat.le_refl _) (by simp) ?_; (case hd => rfl); (case hg => rfl); (case hr => first | (go_simp; done) | (go_simp; rfl)); (case hp => exact (Reps.one (show Kd.M (Kd.int .i64) _ _ _ 1 [.int .i64 1] from rfl) (Reps.none _ _))); intro v831 w39 ho40 hb hg_ hnew_; clear hg_ hnew_; (first | rw [← Ny830.out] at ho40 | (simp only [Int.reduceToNat] at ho40; rw [← Ny830.out] at ho40)); have n0_ := Aside0.mk (Kd.R_elder' (by (with_reducible repeat (first | apply Kd.R_alloc | apply Kd.R_drewN | apply Kd.R_drew)); exact HO802.out) (Kd.R_base ho40) hb); have n1_ := Aside0.mk (Kd.R_elder' (by (with_reducible repeat (first | apply Kd.R_alloc | apply Kd.R_drewN | apply Kd.R_drew)); exact HO805.out) (Kd.R_base ho40) hb); have n2_ := Aside0.mk (Kd.N_elder' (by (with_reducible repeat (first | apply Kd.N_alloc | apply Kd.N_drewN | apply Kd.N_drew)); exact HO808.out) (Kd.R_base ho40) hb); have n3_ := Aside0.mk (Kd.N_elder' (by (with_reducible repeat (first | apply Kd.N_alloc | apply Kd.N_drewN | apply Kd.N_drew)); exact HO824.out) (Kd.R_base ho40) hb); have n4_ := Aside0.mk (Kd.R_elder' (by (with_reducible repeat (first | apply Kd.R_alloc | apply Kd.R_drewN | apply Kd.R_drew)); exact HO829.out) (Kd.R_base ho40) hb); have n5_ := Aside0.mk (Kd.R_lower (Kd.R_new' (Kd.R_new' (Kd.R_new' ho40 (Kd.R_lt (by (with_reducible repeat (first | apply Kd.R_alloc | apply Kd.R_drewN | apply Kd.R_drew)); exact HO802.out))) (Kd.R_lt (by (with_reducible repeat (first | apply Kd.R_alloc | apply Kd.R_drewN | apply Kd.R_drew)); exact HO805.out))) (Kd.R_lt (by (with_reducible repeat (first | apply Kd.R_alloc | apply Kd.R_drewN | apply Kd.R_drew)); exact HO829.out))) (below_size (by repeat (first | (with_reducible first | exact HB.out | apply below_alloc | apply pw_below_drewN | apply below_drew1 | refine below_set ?_ GE809.out) | exact HB.out)))); have n6_ := Aside0.mk (blk_below (g := gb809) (o := .cells #[.slice Ao14 t803.length co14, .slice Ao16 t806.length co16] 27 (0, 0)) (by (with_reducible repeat (first | refine blk_drewN ?_ _ | refine blk_drew ?_ | refine blk_alloc ?_ _)); exact BK809.out) hb); have n7_ := Aside0.mk (below_step (by repeat (first | (with_reducible first | exact HB.out | apply below_alloc | apply pw_below_drewN | apply below_drew1 | refine below_set ?_ GE809.out) | exact HB.out)) hb); clear HO802; clear HO805; clear HO808; clear HO824; clear HO829; clear BK809; clear HB; have HO802 := n0_; have HO805 := n1_; have HO808 := n2_; have HO824 := n3_; have HO829 := n4_; have HO832 := n5_; have BK809 := n6_; have HB := n7_; clear n0_ n1_ n2_ n3_ n4_ n5_ n6_ n7_; clear hb ho40) | ((with_reducible refine gate_dst (N := 24) rfl ?_); (try (refine gate_guard (by rfl) ?_; dsimp only)); refine Kd.R_lit (Kd.int .i64) _ 3 ?hg (N := 24) ?hd (xs := ([2] : List Int)) (inner := [.int .i64 2]) (ok := fun _ => True) (okp := fun _ => True) ?hr ?hp (fun _ hk => hk) trivial (Below.refl _ _) (Nat.le_refl _) (by simp) ?_; (case hd => rfl); (case hg => rfl); (case hr => first | (go_simp; done) | (go_simp; rfl)); (case hp => exact (Reps.one (show Kd.M (Kd.int .i64) _ _ _ 2 [.int .i64 2] from rfl) (Reps.none _ _))); intro v834 w41 ho42 hb hg_ hnew_; clear hg_ hnew_; (first | rw [← Ny833.out] at ho42 | (simp only [Int.reduceToNat] at ho42; rw [← Ny833.out] at ho42)); have n0_ := Aside0.mk (Kd.R_elder' (by (with_reducible repeat (first | apply Kd.R_alloc | apply Kd.R_drewN | apply Kd.R_drew)); exact HO802.out) (Kd.R_base ho42) hb); have n1_ := Aside0.mk (Kd.R_elder' (by (with_reducible repeat (first | apply Kd.R_alloc | apply Kd.R_drewN | apply Kd.R_drew)); exact HO805.out) (Kd.R_base ho42) hb); have n2_ := Aside0.mk (Kd.N_elder' (by (with_reducible repeat (first | apply Kd.N_alloc | apply Kd.N_drewN | apply Kd.N_drew)); exact HO808.out) (Kd.R_base ho42) hb); have n3_ := Aside0.mk (Kd.N_elder' (by (with_reducible repeat (first | apply Kd.N_alloc | apply Kd.N_drewN | apply Kd.N_drew)); exact HO824.out) (Kd.R_base ho42) hb); have n4_ := Aside0.mk (Kd.R_elder' (by (with_reducible repeat (first | apply Kd.R_alloc | apply Kd.R_drewN | apply Kd.R_drew)); exact HO829.out) (Kd.R_base ho42) hb); have n5_ := Aside0.mk (Kd.R_elder' (by (with_reducible repeat (first | apply Kd.R_alloc | apply Kd.R_drewN | apply Kd.R_drew)); exact HO832.out) (Kd.R_base ho42) hb); have n6_ := Aside0.mk (Kd.R_lower (Kd.R_new' (Kd.R_new' (Kd.R_new' (Kd.R_new' ho42 (Kd.R_lt (by (with_reducible repeat (first | apply Kd.R_alloc | apply Kd.R_drewN | apply Kd.R_drew)); exact HO802.out))) (Kd.R_lt (by (with_reducible repeat (first | apply Kd.R_alloc | apply Kd.R_drewN | apply Kd.R_drew)); exact HO805.out))) (Kd.R_lt (by (with_reducible repeat (first | apply Kd.R_alloc | apply Kd.R_drewN | apply Kd.R_drew)); exact HO829.out))) (Kd.R_lt (by (with_reducible repeat (first | apply Kd.R_alloc | apply Kd.R_drewN | apply Kd.R_drew)); exact HO832.out))) (below_size (by repeat (first | (with_reducible first | exact HB.out | apply below_alloc | apply pw_below_drewN | apply below_drew1 | refine below_set ?_ GE809.out) | exact HB.out)))); have n7_ := Aside0.mk (blk_below (g := gb809) (o := .cells #[.slice Ao14 t803.length co14, .slice Ao16 t806.length co16] 27 (0, 0)) (by (with_reducible repeat (first | refine blk_drewN ?_ _ | refine blk_drew ?_ | refine blk_alloc ?_ _)); exact BK809.out) hb); have n8_ := Aside0.mk (below_step (by repeat (first | (with_reducible first | exact HB.out | apply below_alloc | apply pw_below_drewN | apply below_drew1 | refine below_set ?_ GE809.out) | exact HB.out)) hb); clear HO802; clear HO805; clear HO808; clear HO824; clear HO829; clear HO832; clear BK809; clear HB; have HO802 := n0_; have HO805 := n1_; have HO808 := n2_; have HO824 := n3_; have HO829 := n4_; have HO832 := n5_; have HO835 := n6_; have BK809 := n7_; have HB := n8_; clear n0_ n1_ n2_ n3_ n4_ n5_ n6_ n7_ n8_; clear hb ho42) | ((with_reducible refine gate_dst (N := 25) rfl ?_); (try (refine gate_guard (by rfl) ?_; dsimp only)); refine Kd.R_lit (Kd.int .i64) _ 3 ?hg (N := 25) ?hd (xs := ([0] : List Int)) (inner := [.int .i64 0]) (ok := fun _ => True) (okp := fun _ => True) ?hr ?hp (fun _ hk => hk) trivial (Below.refl _ _) (Nat.le_refl _) (by simp) ?_; (case hd => rfl); (case hg => rfl); (case hr => first | (go_simp; done) | (go_simp; rfl)); (case hp => exact (Reps.one (show Kd.M (Kd.int .i64) _ _ _ 0 [.int .i64 0] from rfl) (Reps.none _ _))); intro v837 w43 ho44 hb hg_ hnew_; clear hg_ hnew_; (first | rw [← Ny836.out] at ho44 | (simp only [Int.reduceToNat] at ho44; rw [← Ny836.out] at ho44)); have n0_ := Aside0.mk (Kd.R_elder' (by (with_reducible repeat (first | apply Kd.R_alloc | apply Kd.R_drewN | apply Kd.R_drew)); exact HO802.out) (Kd.R_base ho44) hb); have n1_ := Aside0.mk (Kd.R_elder' (by (with_reducible repeat (first | apply Kd.R_alloc | apply Kd.R_drewN | apply Kd.R_drew)); exact HO805.out) (Kd.R_base ho44) hb); have n2_ := Aside0.mk (Kd.N_elder' (by (with_reducible repeat (first | apply Kd.N_alloc | apply Kd.N_drewN | apply Kd.N_drew)); exact HO808.out) (Kd.R_base ho44) hb); have n3_ := Aside0.mk (Kd.N_elder' (by (with_reducible repeat (first | apply Kd.N_alloc | apply Kd.N_drewN | apply Kd.N_drew)); exact HO824.out) (Kd.R_base ho44) hb); have n4_ := Aside0.mk (Kd.R_elder' (by (with_reducible repeat (first | apply Kd.R_alloc | apply Kd.R_drewN | apply Kd.R_drew)); exact HO829.out) (Kd.R_base ho44) hb); have n5_ := Aside0.mk (Kd.R_elder' (by (with_reducible repeat (first | apply Kd.R_alloc | apply Kd.R_drewN | apply Kd.R_drew)); exact HO832.out) (Kd.R_base ho44) hb); have n6_ := Aside0.mk (Kd.R_elder' (by (with_reducible repeat (first | apply Kd.R_alloc | apply Kd.R_drewN | apply Kd.R_drew)); exact HO835.out) (Kd.R_base ho44) hb); have n7_ := Aside0.mk (Kd.R_lower (Kd.R_new' (Kd.R_new' (Kd.R_new' (Kd.R_new' (Kd.R_new' ho44 (Kd.R_lt (by (with_reducible repeat (first | apply Kd.R_alloc | apply Kd.R_drewN | apply Kd.R_drew)); exact HO802.out))) (Kd.R_lt (by (with_reducible repeat (first | apply Kd.R_alloc | apply Kd.R_drewN | apply Kd.R_drew)); exact HO805.out))) (Kd.R_lt (by (with_reducible repeat (first | apply Kd.R_alloc | apply Kd.R_drewN | apply Kd.R_drew)); exact HO829.out))) (Kd.R_lt (by (with_reducible repeat (first | apply Kd.R_alloc | apply Kd.R_drewN | apply Kd.R_drew)); exact HO832.out))) (Kd.R_lt (by (with_reducible repeat (first | apply Kd.R_alloc | apply Kd.R_drewN | apply Kd.R_drew)); exact HO835.out))) (below_size (by repeat (first | (with_reducible first | exact HB.out | apply below_alloc | apply pw_below_drewN | apply below_drew1 | refine below_set ?_ GE809.out) | exact HB.out)))); have n8_ := Aside0.mk (blk_below (g := gb809) (o := .cells #[.slice Ao14 t803.length co14, .slice Ao16 t806.length co16] 27 (0, 0)) (by (with_reducible repeat (first | refine blk_drewN ?_ _ | refine blk_drew ?_ | refine blk_alloc ?_ _)); exact BK809.out) hb); have n9_ := Aside0.mk (below_step (by repeat (first | (with_reducible first | exact HB.out | apply below_alloc | apply pw_below_drewN | apply below_drew1 | refine below_set ?_ GE809.out) | exact HB.out)) hb); clear HO802; clear HO805; clear HO808; clear HO824; clear HO829; clear HO832; clear HO835; clear BK809; clear HB; have HO802 := n0_; have HO805 := n1_; have HO808 := n2_; have HO824 := n3_; have HO829 := n4_; have HO832 := n5_; have HO835 := n6_; have HO838 := n7_; have BK809 := n8_; have HB := n9_; clear n0_ n1_ n2_ n3_ n4_ n5_ n6_ n7_ n8_ n9_; clear hb ho44; obtain ⟨Ao45, co45, eo45⟩ := Kd.R_slice HO829.out; subst eo45; obtain ⟨Ao46, co46, eo46⟩ := Kd.R_slice HO832.out; subst eo46; obtain ⟨Ao47, co47, eo47⟩ := Kd.R_slice HO835.out; subst eo47; obtain ⟨Ao48, co48, eo48⟩ := Kd.R_slice HO838.out; subst eo48) | ((with_reducible refine gate_dst (N := 26) rfl ?_); (try (refine gate_guard (by rfl) ?_; dsimp only)); refine Kd.N_lit (Kd.slice 3 (Kd.int .i64)) _ 22 ?hg (N' := 26) ?hd (xs := ([y827, y830, y833, y836] : List (List Int))) (inner := [.slice Ao45 y827.length co45, .slice Ao46 y830.length co46, .slice Ao47 y833.length co47, .slice Ao48 y836.length co48]) (ok := (fun k_ => some k_ ≠ (.slice Ao11 y800.length co11 : Value).ownBlock ∧ some k_ ≠ (.slice Ao14 t803.length co14 : Value).ownBlock ∧ some k_ ≠ (.slice Ao16 t806.length co16 : Value).ownBlock ∧ some k_ ≠ (.slice Ao32 y822.length co32 : Value).ownBlock ∧ k_ ≠ gb809)) (okp := (fun k_ => some k_ ≠ (.slice Ao11 y800.length co11 : Value).ownBlock ∧ some k_ ≠ (.slice Ao14 t803.length co14 : Value).ownBlock ∧ some k_ ≠ (.slice Ao16 t806.length co16 : Value).ownBlock ∧ some k_ ≠ (.slice Ao32 y822.length co32 : Value).ownBlock ∧ k_ ≠ gb809)) ?hr ?hp (fun _ hk => hk) ((show ∀ k_, w43.heap.size ≤ k_ → (fun k_ => some k_ ≠ (.slice Ao11 y800.length co11 : Value).ownBlock ∧ some k_ ≠ (.slice Ao14 t803.length co14 : Value).ownBlock ∧ some k_ ≠ (.slice Ao16 t806.length co16 : Value).ownBlock ∧ some k_ ≠ (.slice Ao32 y822.length co32 : Value).ownBlock ∧ k_ ≠ gb809) k_ from fun k_ hk => ⟨Kd.fresh' (Kd.R_lt (by (with_reducible repeat (first | apply Kd.R_alloc | apply Kd.R_drewN | apply Kd.R_drew)); exact HO802.out)) k_ hk, Kd.fresh' (Kd.R_lt (by (with_reducible repeat (first | apply Kd.R_alloc | apply Kd.R_drewN | apply Kd.R_drew)); exact HO805.out)) k_ hk, Kd.fresh' (Kd.N_lt (by (with_reducible repeat (first | apply Kd.N_alloc | apply Kd.N_drewN | apply Kd.N_drew)); exact HO808.out)) k_ hk, Kd.fresh' (Kd.N_lt (by (with_reducible repeat (first | apply Kd.N_alloc | apply Kd.N_drewN | apply Kd.N_drew)); exact HO824.out)) k_ hk, Kd.freshB (g := gb809) (o := .cells #[.slice Ao14 t803.length co14, .slice Ao16 t806.length co16] 27 (0, 0)) (by (with_reducible repeat (first | refine blk_drewN ?_ _ | refine blk_drew ?_ | refine blk_alloc ?_ _)); exact BK809.out) k_ hk⟩) _ (Nat.le_refl _)) (Below.refl _ _) (Nat.le_refl _) (by simp) ?_; (case hd => rfl); (case hg => rfl); (case hr => first | (go_simp; done) | (go_simp; rfl)); (case hp => exact (Reps.one (show Kd.FK (Kd.slice 3 (Kd.int .i64)) _ _ y827 [.slice Ao45 y827.length co45] from (Kd.FK_slice_mk (Kd.R_reads' (Kd.R_mono (ok' := (fun k_ => some k_ ≠ (.slice Ao11 y800.length co11 : Value).ownBlock ∧ some k_ ≠ (.slice Ao14 t803.length co14 : Value).ownBlock ∧ some k_ ≠ (.slice Ao16 t806.length co16 : Value).ownBlock ∧ some k_ ≠ (.slice Ao32 y822.length co32 : Value).ownBlock ∧ k_ ≠ gb809)) (Kd.R_types (Kd.R_apart' (Kd.R_apart' (HO829.out) (Kd.N_typed HO808.out) (by decide)) (Kd.N_typed HO824.out) (by decide)) BK809.out (by decide)) (fun k_ hk => ⟨hk.1.1.1.1.1.1.1.2, ⟨hk.1.1.1.1.1.1.2, ⟨hk.1.1.2, ⟨hk.1.2, hk.2⟩⟩⟩⟩))).2.1 (Kd.R_F (Kd.R_mono (ok' := (fun k_ => some k_ ≠ (.slice Ao11 y800.length co11 : Value).ownBlock ∧ some k_ ≠ (.slice Ao14 t803.length co14 : Value).ownBlock ∧ some k_ ≠ (.slice Ao16 t806.length co16 : Value).ownBlock ∧ some k_ ≠ (.slice Ao32 y822.length co32 : Value).ownBlock ∧ k_ ≠ gb809)) (Kd.R_types (Kd.R_apart' (Kd.R_apart' (HO829.out) (Kd.N_typed HO808.out) (by decide)) (Kd.N_typed HO824.out) (by decide)) BK809.out (by decide)) (fun k_ hk => ⟨hk.1.1.1.1.1.1.1.2, ⟨hk.1.1.1.1.1.1.2, ⟨hk.1.1.2, ⟨hk.1.2, hk.2⟩⟩⟩⟩))))) (Reps.one (show Kd.FK (Kd.slice 3 (Kd.int .i64)) _ _ y830 [.slice Ao46 y830.length co46] from (Kd.FK_slice_mk (Kd.R_reads' (Kd.R_mono (ok' := (fun k_ => some k_ ≠ (.slice Ao11 y800.length co11 : Value).ownBlock ∧ some k_ ≠ (.slice Ao14 t803.length co14 : Value).ownBlock ∧ some k_ ≠ (.slice Ao16 t806.length co16 : Value).ownBlock ∧ some k_ ≠ (.slice Ao32 y822.length co32 : Value).ownBlock ∧ k_ ≠ gb809)) (Kd.R_types (Kd.R_apart' (Kd.R_apart' (HO832.out) (Kd.N_typed HO808.out) (by decide)) (Kd.N_typed HO824.out) (by decide)) BK809.out (by decide)) (fun k_ hk => ⟨hk.1.1.1.1.1.1.1.2, ⟨hk.1.1.1.1.1.1.2, ⟨hk.1.1.2, ⟨hk.1.2, hk.2⟩⟩⟩⟩))).2.1 (Kd.R_F (Kd.R_mono (ok' := (fun k_ => some k_ ≠ (.slice Ao11 y800.length co11 : Value).ownBlock ∧ some k_ ≠ (.slice Ao14 t803.length co14 : Value).ownBlock ∧ some k_ ≠ (.slice Ao16 t806.length co16 : Value).ownBlock ∧ some k_ ≠ (.slice Ao32 y822.length co32 : Value).ownBlock ∧ k_ ≠ gb809)) (Kd.R_types (Kd.R_apart' (Kd.R_apart' (HO832.out) (Kd.N_typed HO808.out) (by decide)) (Kd.N_typed HO824.out) (by decide)) BK809.out (by decide)) (fun k_ hk => ⟨hk.1.1.1.1.1.1.1.2, ⟨hk.1.1.1.1.1.1.2, ⟨hk.1.1.2, ⟨hk.1.2, hk.2⟩⟩⟩⟩))))) (Reps.one (show Kd.FK (Kd.slice 3 (Kd.int .i64)) _ _ y833 [.slice Ao47 y833.length co47] from (Kd.FK_slice_mk (Kd.R_reads' (Kd.R_mono (ok' := (fun k_ => some k_ ≠ (.slice Ao11 y800.length co11 : Value).ownBlock ∧ some k_ ≠ (.slice Ao14 t803.length co14 : Value).ownBlock ∧ some k_ ≠ (.slice Ao16 t806.length co16 : Value).ownBlock ∧ some k_ ≠ (.slice Ao32 y822.length co32 : Value).ownBlock ∧ k_ ≠ gb809)) (Kd.R_types (Kd.R_apart' (Kd.R_apart' (HO835.out) (Kd.N_typed HO808.out) (by decide)) (Kd.N_typed HO824.out) (by decide)) BK809.out (by decide)) (fun k_ hk => ⟨hk.1.1.1.1.1.1.1.2, ⟨hk.1.1.1.1.1.1.2, ⟨hk.1.1.2, ⟨hk.1.2, hk.2⟩⟩⟩⟩))).2.1 (Kd.R_F (Kd.R_mono (ok' := (fun k_ => some k_ ≠ (.slice Ao11 y800.length co11 : Value).ownBlock ∧ some k_ ≠ (.slice Ao14 t803.length co14 : Value).ownBlock ∧ some k_ ≠ (.slice Ao16 t806.length co16 : Value).ownBlock ∧ some k_ ≠ (.slice Ao32 y822.length co32 : Value).ownBlock ∧ k_ ≠ gb809)) (Kd.R_types (Kd.R_apart' (Kd.R_apart' (HO835.out) (Kd.N_typed HO808.out) (by decide)) (Kd.N_typed HO824.out) (by decide)) BK809.out (by decide)) (fun k_ hk => ⟨hk.1.1.1.1.1.1.1.2, ⟨hk.1.1.1.1.1.1.2, ⟨hk.1.1.2, ⟨hk.1.2, hk.2⟩⟩⟩⟩))))) (Reps.one (show Kd.FK (Kd.slice 3 (Kd.int .i64)) _ _ y836 [.slice Ao48 y836.length co48] from (Kd.FK_slice_mk (Kd.R_reads' (Kd.R_mono (ok' := (fun k_ => some k_ ≠ (.slice Ao11 y800.length co11 : Value).ownBlock ∧ some k_ ≠ (.slice Ao14 t803.length co14 : Value).ownBlock ∧ some k_ ≠ (.slice Ao16 t806.length co16 : Value).ownBlock ∧ some k_ ≠ (.slice Ao32 y822.length co32 : Value).ownBlock ∧ k_ ≠ gb809)) (Kd.R_types (Kd.R_apart' (Kd.R_apart' (HO838.out) (Kd.N_typed HO808.out) (by decide)) (Kd.N_typed HO824.out) (by decide)) BK809.out (by decide)) (fun k_ hk => ⟨hk.1.1.1.1.1.1.1.2, ⟨hk.1.1.1.1.1.1.2, ⟨hk.1.1.2, ⟨hk.1.2, hk.2⟩⟩⟩⟩))).2.1 (Kd.R_F (Kd.R_mono (ok' := (fun k_ => some k_ ≠ (.slice Ao11 y800.length co11 : Value).ownBlock ∧ some k_ ≠ (.slice Ao14 t803.length co14 : Value).ownBlock ∧ some k_ ≠ (.slice Ao16 t806.length co16 : Value).ownBlock ∧ some k_ ≠ (.slice Ao32 y822.length co32 : Value).ownBlock ∧ k_ ≠ gb809)) (Kd.R_types (Kd.R_apart' (Kd.R_apart' (HO838.out) (Kd.N_typed HO808.out) (by decide)) (Kd.N_typed HO824.out) (by decide)) BK809.out (by decide)) (fun k_ hk => ⟨hk.1.1.1.1.1.1.1.2, ⟨hk.1.1.1.1.1.1.2, ⟨hk.1.1.2, ⟨hk.1.2, hk.2⟩⟩⟩⟩))))) (Reps.none _ _)))))); intro v840 w49 ho50 hb hg_ hnew_; clear hg_ hnew_; (first | rw [← Ny839.out] at ho50 | (simp only [Int.reduceToNat] at ho50; rw [← Ny839.out] at ho50)); have n0_ := Aside0.mk (Kd.R_below (by (with_reducible repeat (first | apply Kd.R_alloc | apply Kd.R_drewN | apply Kd.R_drew)); exact HO802.out) hb); have n1_ := Aside0.mk (Kd.R_below (by (with_reducible repeat (first | apply Kd.R_alloc | apply Kd.R_drewN | apply Kd.R_drew)); exact HO805.out) hb); have n2_ := Aside0.mk (Kd.N_elder' (by (with_reducible repeat (first | apply Kd.N_alloc | apply Kd.N_drewN | apply Kd.N_drew)); exact HO808.out) (Kd.N_base ho50) hb); have n3_ := Aside0.mk (Kd.N_elder' (by (with_reducible repeat (first | apply Kd.N_alloc | apply Kd.N_drewN | apply Kd.N_drew)); exact HO824.out) (Kd.N_base ho50) hb); have n4_ := Aside0.mk (Kd.N_lower ho50 (below_size (by repeat (first | (with_reducible first | exact HB.out | apply below_alloc | apply pw_below_drewN | apply below_drew1 | refine below_set ?_ GE809.out) | exact HB.out)))); have n5_ := Aside0.mk (blk_below (g := gb809) (o := .cells #[.slice Ao14 t803.length co14, .slice Ao16 t806.length co16] 27 (0, 0)) (by (with_reducible repeat (first | refine blk_drewN ?_ _ | refine blk_drew ?_ | refine blk_alloc ?_ _)); exact BK809.out) hb); have n6_ := Aside0.mk (below_step (by repeat (first | (with_reducible first | exact HB.out | apply below_alloc | apply pw_below_drewN | apply below_drew1 | refine below_set ?_ GE809.out) | exact HB.out)) hb); clear HO802; clear HO805; clear HO808; clear HO824; clear BK809; clear HB; clear HO829; clear HO832; clear HO835; clear HO838; have HO802 := n0_; have HO805 := n1_; have HO808 := n2_; have HO824 := n3_; have HO841 := n4_; have BK809 := n5_; have HB := n6_; clear n0_ n1_ n2_ n3_ n4_ n5_ n6_; clear hb ho50; obtain ⟨Ao51, co51, eo51⟩ := Kd.N_slice HO841.out; subst eo51) | (go_at_call 61; (with_reducible refine (center_Legit.calls k _ _ t803 _ _ t806 _ _ y839 false _ ?side1 ?side2 ?side3 ?side4 ?side5 ?side6 A6.out).mono ?_); (case side1 => repeat (first | exact (Kd.R_reads' HO805.out).2.2 | (with_reducible refine Kd.C_alloc ?_ _) | (with_reducible refine Kd.C_drewN ?_ _) | (with_reducible refine Kd.C_drew ?_))); (case side2 => exact (Kd.R_reads' HO805.out).2.1); (case side3 => repeat (first | exact (Kd.N_reads' HO808.out).2.2 | (with_reducible refine Kd.C_alloc ?_ _) | (with_reducible refine Kd.C_drewN ?_ _) | (with_reducible refine Kd.C_drew ?_))); (case side4 => exact (Kd.N_reads' HO808.out).2.1); (case side5 => repeat (first | exact (Kd.N_reads' HO841.out).2.2 | (with_reducible refine Kd.C_alloc ?_ _) | (with_reducible refine Kd.C_drewN ?_ _) | (with_reducible refine Kd.C_drew ?_))); (case side6 => exact (Kd.N_reads' HO841.out).2.1); rintro e w52 ⟨rfl, hb⟩; have n0_ := Aside0.mk (Kd.R_below (by (with_reducible repeat (first | apply Kd.R_alloc | apply Kd.R_drewN | apply Kd.R_drew)); exact HO802.out) hb); have n1_ := Aside0.mk (Kd.R_below (by (with_reducible repeat (first | apply Kd.R_alloc | apply Kd.R_drewN | apply Kd.R_drew)); exact HO805.out) hb); have n2_ := Aside0.mk (Kd.N_below (by (with_reducible repeat (first | apply Kd.N_alloc | apply Kd.N_drewN | apply Kd.N_drew)); exact HO808.out) hb); have n3_ := Aside0.mk (Kd.N_below (by (with_reducible repeat (first | apply Kd.N_alloc | apply Kd.N_drewN | apply Kd.N_drew)); exact HO824.out) hb); have n4_ := Aside0.mk (Kd.N_below (by (with_reducible repeat (first | apply Kd.N_alloc | apply Kd.N_drewN | apply Kd.N_drew)); exact HO841.out) hb); have n5_ := Aside0.mk (blk_below (g := gb809) (o := .cells #[.slice Ao14 t803.length co14, .slice Ao16 t806.length co16] 27 (0, 0)) (by (with_reducible repeat (first | refine blk_drewN ?_ _ | refine blk_drew ?_ | refine blk_alloc ?_ _)); exact BK809.out) hb); have n6_ := Aside0.mk (below_step (by repeat (first | (with_reducible first | exact HB.out | apply below_alloc | apply pw_below_drewN | apply below_drew1 | refine below_set ?_ GE809.out) | exact HB.out)) hb); clear HO802; clear HO805; clear HO808; clear HO824; clear HO841; clear BK809; clear HB; have HO802 := n0_; have HO805 := n1_; have HO808 := n2_; have HO824 := n3_; have HO841 := n4_; have BK809 := n5_; have HB := n6_; clear n0_ n1_ n2_ n3_ n4_ n5_ n6_; (try clear hb); (try clear hb2); (try clear hk); (try clear hi); have hcz53_0 : w52.cell? ⟨gb809, 0, none⟩ = some (.slice Ao14 t803.length co14) := (blk_cell BK809.out 0).trans rfl; have hcz53_1 : w52.cell? ⟨gb809, 1, none⟩ = some (.slice Ao16 t806.length co16) := (blk_cell BK809.out 1).trans rfl; have hfz53_0 := blk_frozen BK809.out 0; have hfz53_1 := blk_frozen BK809.out 1) | (go_at_call 63; (with_reducible refine (center_Claim.calls k _ _ t803 _ _ t806 t843 t844 t845 t846 t847 _ ?side1 ?side2 ?side3 ?side4 A8.out).mono ?_); (case side1 => repeat (first | exact (Kd.R_reads' HO805.out).2.2 | (with_reducible refine Kd.C_alloc ?_ _) | (with_reducible refine Kd.C_drewN ?_ _) | (with_reducible refine Kd.C_drew ?_))); (case side2 => exact (Kd.R_reads' HO805.out).2.1); (case side3 => repeat (first | exact (Kd.N_reads' HO808.out).2.2 | (with_reducible refine Kd.C_alloc ?_ _) | (with_reducible refine Kd.C_drewN ?_ _) | (with_reducible refine Kd.C_drew ?_))); (case side4 => exact (Kd.N_reads' HO808.out).2.1); rintro e w54 ⟨rfl, hb⟩; have n0_ := Aside0.mk (Kd.R_below (by (with_reducible repeat (first | apply Kd.R_alloc | apply Kd.R_drewN | apply Kd.R_drew)); exact HO802.out) hb); have n1_ := Aside0.mk (Kd.R_below (by (with_reducible repeat (first | apply Kd.R_alloc | apply Kd.R_drewN | apply Kd.R_drew)); exact HO805.out) hb); have n2_ := Aside0.mk (Kd.N_below (by (with_reducible repeat (first | apply Kd.N_alloc | apply Kd.N_drewN | apply Kd.N_drew)); exact HO808.out) hb); have n3_ := Aside0.mk (Kd.N_below (by (with_reducible repeat (first | apply Kd.N_alloc | apply Kd.N_drewN | apply Kd.N_drew)); exact HO824.out) hb); have n4_ := Aside0.mk (Kd.N_below (by (with_reducible repeat (first | apply Kd.N_alloc | apply Kd.N_drewN | apply Kd.N_drew)); exact HO841.out) hb); have n5_ := Aside0.mk (blk_below (g := gb809) (o := .cells #[.slice Ao14 t803.length co14, .slice Ao16 t806.length co16] 27 (0, 0)) (by (with_reducible repeat (first | refine blk_drewN ?_ _ | refine blk_drew ?_ | refine blk_alloc ?_ _)); exact BK809.out) hb); have n6_ := Aside0.mk (below_step (by repeat (first | (with_reducible first | exact HB.out | apply below_alloc | apply pw_below_drewN | apply below_drew1 | refine below_set ?_ GE809.out) | exact HB.out)) hb); clear HO802; clear HO805; clear HO808; clear HO824; clear HO841; clear BK809; clear HB; have HO802 := n0_; have HO805 := n1_; have HO808 := n2_; have HO824 := n3_; have HO841 := n4_; have BK809 := n5_; have HB := n6_; clear n0_ n1_ n2_ n3_ n4_ n5_ n6_; (try clear hb); (try clear hb2); (try clear hk); (try clear hi)))
    go_ret
    exact ⟨by first | rfl | (simp [errW_none, errW_some] <;> rfl) | (simp [*, errW_none, errW_some] <;> rfl), by repeat (first | (with_reducible first | exact HB.out | apply below_alloc | apply pw_below_drewN | apply below_drew1 | refine below_set ?_ GE809.out) | exact HB.out)⟩
  ·
   rw [if_neg c5] at H
   exact absurd H (by simp)
 ·
  replace c3 := Bool.eq_false_iff.mpr c3
  subst c3
  have H1 : (none) = some r := by rw [if_neg (show ¬ (false = true) by decide)] at H; exact H
  clear H
  have H := H1
  clear H1
  exact absurd H (by simp)
end Go.Proofs.YthapikakneikbaaG
namespace Go.Proofs.YthapikakneikbaaG
open Go.RowKit Go.Proofs.YthapikakneikbaaW.PrintWords Go.Proofs.YthapikakneikbaaW.PrintLast Go.Proofs.YthapikakneikbaaW.PrintMore
attribute [local go_sem] max2_int min2_int max_two min_two max_three min_three max_four min_four   -- for this text's walks alone
set_option linter.unusedVariables false
set_option linter.unusedSimpArgs false
def selfstabref27_Fit.f (k : Nat) (l0_0 : List Int) (l0_1 : List (List (S60))) : Option (Bool) := (selfstabref01_Tree.f k l0_0 l0_1).bind fun t856 => (some t856)
theorem selfstabref27_Fit.mono : ∀ a0 a1 k, LeO (selfstabref27_Fit.f k a0 a1) (selfstabref27_Fit.f (k + 1) a0 a1) := by
 intro a0 a1 k
 unfold selfstabref27_Fit.f
 repeat' first
   | (with_reducible exact selfstabref01_Tree.mono _ _ _)
   | (with_reducible exact LeO.refl _)
   | (with_reducible exact LeO.none _)
   | (with_reducible refine LeO.ite ?_ ?_)
   | (with_reducible refine LeO.bind ?_ (fun _ => ?_))
   | exact selfstabref01_Tree.mono _ _ _
   | exact LeO.none _
   | refine LeO.ite ?_ ?_
   | refine LeO.bind ?_ (fun _ => ?_)
set_option maxHeartbeats 8000000 in
set_option maxRecDepth 100000 in
theorem selfstabref27_Fit.calls (k : Nat) (A0_0 : Option Addr) (c0_0 : Nat) (l0_0 : List Int) (A0_1 : Option Addr) (c0_1 : Nat) (l0_1 : List (List (S60))) (r : Bool) (w : World) (hr0_0 : Kd.C (Kd.int .i64) w A0_0 l0_0.length l0_0) (hc0_0 : l0_0.length ≤ c0_0) (hr0_1 : Kd.C (Kd.slice 60 k60) w A0_1 l0_1.length l0_1) (hc0_1 : l0_1.length ≤ c0_1) (h : selfstabref27_Fit.f k l0_0 l0_1 = some r) :
  Calls Try.prog 60 #[.agg #[.slice A0_0 l0_0.length c0_0, .slice A0_1 l0_1.length c0_1]] w fun e w' => e = .returned (.bool r) ∧ Below w.heap.size w w' := by
 have hu27 := Try.underlying27
 have HR0_0 := Aside0.mk hr0_0
 have HC0_0 := Aside0.mk hc0_0
 clear hr0_0 hc0_0
 have HR0_1 := Aside0.mk hr0_1
 have HC0_1 := Aside0.mk hc0_1
 clear hr0_1 hc0_1
 have HB := Aside0.mk (Below.refl w.heap.size w)
 have H : ((selfstabref01_Tree.f k l0_0 l0_1).bind fun t856 => (some t856)) = some r := h
 clear h
 replace H := Option.bind_eq_some_iff.mp H
 obtain ⟨t856, A20, H⟩ := H
 replace H : (some t856) = some r := H
 have A2 := Aside0.mk A20
 clear A20
 obtain rfl := Option.some.inj H
 go_enter Try.func60, Try.ntmps60
 go_wp2_with (first | ((with_reducible refine gate_dst (N := 1) rfl ?_); refine box_event ?hg (N := 1) ?hd (cs := #[.slice A0_0 l0_0.length c0_0, .slice A0_1 l0_1.length c0_1]) (t := 27) ?hr ?_; (case hd => rfl); (case hg => rfl); (case hr => first | (go_simp; done) | (go_simp; rfl)); intro gb855 hg w3 hbox hb; have n0_ := Aside0.mk (below_step (by repeat (first | (with_reducible first | exact HB.out | apply below_alloc | apply pw_below_drewN | apply below_drew1) | exact HB.out)) hb); have n1_ := Aside0.mk (hbox); have n2_ := Aside0.mk ((by rw [hg]; exact (below_size (by repeat (first | (with_reducible first | exact HB.out | apply below_alloc | apply pw_below_drewN | apply below_drew1) | exact HB.out))) : w.heap.size ≤ gb855)); have n3_ := Aside0.mk ((by rw [hg]; exact (below_size (by repeat (first | (with_reducible first | exact HB.out | apply below_alloc | apply pw_below_drewN | apply below_drew1) | exact HB.out))) : w.heap.size ≤ gb855)); clear HB; have HB := n0_; have BK855 := n1_; have GW855 := n2_; have GE855 := n3_; clear n0_ n1_ n2_ n3_; clear hb hbox hg; have hcz4_0 : w3.cell? ⟨gb855, 0, none⟩ = some (.slice A0_0 l0_0.length c0_0) := (blk_cell BK855.out 0).trans rfl; have hcz4_1 : w3.cell? ⟨gb855, 1, none⟩ = some (.slice A0_1 l0_1.length c0_1) := (blk_cell BK855.out 1).trans rfl; have hfz4_0 := blk_frozen BK855.out 0; have hfz4_1 := blk_frozen BK855.out 1) | ((with_reducible refine gate_callee (f := 105) rfl ?_); refine goesL_ (some 4) rfl rfl Try.func105 (by kernel_rfl) rfl #[.agg #[.slice A0_0 l0_0.length c0_0, .slice A0_1 l0_1.length c0_1]] rfl (by (try simp only [List.map_toArray, List.map_cons, List.map_nil]); first | done | rfl | (simp only [List.length_drop, List.length_take]; rfl)) ?_; (with_reducible refine (selfstabref01_Tree.calls k _ _ l0_0 _ _ l0_1 t856 _ ?side1 ?side2 ?side3 ?side4 A2.out).mono ?_); (case side1 => repeat (first | exact (Kd.C_below HR0_0.out HB.out) | (with_reducible refine Kd.C_alloc ?_ _) | (with_reducible refine Kd.C_drewN ?_ _) | (with_reducible refine Kd.C_drew ?_))); (case side2 => exact HC0_0.out); (case side3 => repeat (first | exact (Kd.C_below HR0_1.out HB.out) | (with_reducible refine Kd.C_alloc ?_ _) | (with_reducible refine Kd.C_drewN ?_ _) | (with_reducible refine Kd.C_drew ?_))); (case side4 => exact HC0_1.out); rintro e w5 ⟨rfl, hb⟩; refine ⟨_, rfl, ?_⟩; have n0_ := Aside0.mk (blk_below (g := gb855) (o := .cells #[.slice A0_0 l0_0.length c0_0, .slice A0_1 l0_1.length c0_1] 27 (0, 0)) (by (with_reducible repeat (first | refine blk_drewN ?_ _ | refine blk_drew ?_ | refine blk_alloc ?_ _)); exact BK855.out) hb); have n1_ := Aside0.mk (below_step (by repeat (first | (with_reducible first | exact HB.out | apply below_alloc | apply pw_below_drewN | apply below_drew1 | refine below_set ?_ GE855.out) | exact HB.out)) hb); clear BK855; clear HB; have BK855 := n0_; have HB := n1_; clear n0_ n1_; (try clear hb); (try clear hb2); (try clear hk); (try clear hi)))
 go_ret
 exact ⟨by first | rfl | (simp [errW_none, errW_some] <;> rfl) | (simp [*, errW_none, errW_some] <;> rfl), by repeat (first | (with_reducible first | exact HB.out | apply below_alloc | apply pw_below_drewN | apply below_drew1 | refine below_set ?_ GE855.out) | exact HB.out)⟩
end Go.Proofs.YthapikakneikbaaG
namespace Go.Proofs.YthapikakneikbaaG
open Go.RowKit Go.Proofs.YthapikakneikbaaW.PrintWords Go.Proofs.YthapikakneikbaaW.PrintLast Go.Proofs.YthapikakneikbaaW.PrintMore
attribute [local go_sem] max2_int min2_int max_two min_two max_three min_three max_four min_four   -- for this text's walks alone
set_option linter.unusedVariables false
set_option linter.unusedSimpArgs false
def selfstabref23_Config.f (l0_0 : List Int) (l0_1 : List (List (S60))) (l1 : List (List Int)) (l2 : List (S51)) : Option (Bool) :=
 if l2.length ≤ 100 ∧ l2.all smallV = true then some (Go.Proofs.Ythapikakneikbaa.confB (toG l0_0 l0_1) l1 (l2.map toV)) else none
theorem selfstabref23_Config.calls (A0_0 : Option Addr) (c0_0 : Nat) (l0_0 : List Int) (A0_1 : Option Addr) (c0_1 : Nat) (l0_1 : List (List (S60))) (A1 : Option Addr) (c1 : Nat) (l1 : List (List Int)) (A2 : Option Addr) (c2 : Nat) (l2 : List (S51)) (r : Bool) (w : World) (hr0_0 : Kd.C (Kd.int .i64) w A0_0 l0_0.length l0_0) (hc0_0 : l0_0.length ≤ c0_0) (hr0_1 : Kd.C (Kd.slice 60 k60) w A0_1 l0_1.length l0_1) (hc0_1 : l0_1.length ≤ c0_1) (hr1 : Kd.C (Kd.slice 3 (Kd.int .i64)) w A1 l1.length l1) (hc1 : l1.length ≤ c1) (hr2 : Kd.C k51 w A2 l2.length l2) (hc2 : l2.length ≤ c2) (h : selfstabref23_Config.f l0_0 l0_1 l1 l2 = some r) :
  Calls Try.prog 83 #[.agg #[.slice A0_0 l0_0.length c0_0, .slice A0_1 l0_1.length c0_1], .slice A1 l1.length c1, .slice A2 l2.length c2] w fun e w' => e = .returned (.bool r) ∧ Below w.heap.size w w' := by
 unfold selfstabref23_Config.f at h
 by_cases hm : l2.length ≤ 100 ∧ l2.all smallV = true
 ·
  rw [if_pos hm] at h
  injection h with h
  subst h
  have hv := Go.Proofs.Ythapikakneikbaa.refconf_calls w A0_0 c0_0 A0_1 c0_1 (toG l0_0 l0_1) (isGraph hr0_0 hc0_0 hr0_1 hc0_1) A1 c1 l1 (C_conf hr1) A2 c2 (l2.map toV) (Br.var.C hr2) (by simpa using hm.1) (fun v hv => by
   obtain ⟨x, hx, rfl⟩ := List.mem_map.1 hv
   exact smallV_is (List.all_eq_true.1 hm.2 x hx))
  have e1 : (toG l0_0 l0_1).ports.length = l0_1.length := by simp [toG]
  have e2 : (l2.map toV).length = l2.length := by simp
  rw [e1, e2] at hv
  exact hv
 ·
  rw [if_neg hm] at h
  cases h
end Go.Proofs.YthapikakneikbaaG
namespace Go.Proofs.YthapikakneikbaaG
open Go.RowKit Go.Proofs.YthapikakneikbaaW.PrintWords Go.Proofs.YthapikakneikbaaW.PrintLast Go.Proofs.YthapikakneikbaaW.PrintMore
attribute [local go_sem] max2_int min2_int max_two min_two max_three min_three max_four min_four   -- for this text's walks alone
set_option linter.unusedVariables false
set_option linter.unusedSimpArgs false
def selfstabref23_Number.f (a0 : ByteArray) (a1 : Int) (a2 : Int) (a3 : Int) : Option (ByteArray × Int × Int × Int × Int × Int) := some (a0, 1, 0, a1, a2, a3)
set_option maxHeartbeats 8000000 in
set_option maxRecDepth 100000 in
theorem selfstabref23_Number.calls (a0 : ByteArray) (a1 : Int) (a2 : Int) (a3 : Int) (r1 : ByteArray) (r2 : Int) (r3 : Int) (r4 : Int) (r5 : Int) (r6 : Int) (w : World) (h : selfstabref23_Number.f a0 a1 a2 a3 = some (r1, r2, r3, r4, r5, r6)) :
  Calls Try.prog 121 #[.string a0, .int .i64 a1, .int .i64 a2, .int .i64 a3] w fun e w' => e = .returned (.agg #[.string r1, .int .i64 r2, .int .i64 r3, .int .i64 r4, .int .i64 r5, .int .i64 r6]) ∧ Below w.heap.size w w' := by
 have hu51 := Try.underlying51
 have HB := Aside0.mk (Below.refl w.heap.size w)
 have H : (some (a0, 1, 0, a1, a2, a3)) = some (r1, r2, r3, r4, r5, r6) := h
 clear h
 simp only [Option.some.injEq, Prod.mk.injEq] at H
 obtain ⟨rfl, rfl, rfl, rfl, rfl, rfl⟩ := H
 go_enter Try.func121, Try.ntmps121
 go_wp2_with (first | ((with_reducible refine gate_dst (N := 8) rfl ?_); refine box_event ?hg (N := 8) ?hd (cs := #[.string (⟨#[]⟩ : ByteArray), .int .i64 0, .int .i64 0, .int .i64 0, .int .i64 0, .int .i64 0]) (t := 51) ?hr ?_; (case hd => rfl); (case hg => rfl); (case hr => first | (go_simp; done) | (go_simp; rfl)); intro gb218 hg w5 hbox hb; have n0_ := Aside0.mk (below_step (by repeat (first | (with_reducible first | exact HB.out | apply below_alloc | apply pw_below_drewN | apply below_drew1) | exact HB.out)) hb); have n1_ := Aside0.mk (hbox); have n2_ := Aside0.mk ((by rw [hg]; exact (below_size (by repeat (first | (with_reducible first | exact HB.out | apply below_alloc | apply pw_below_drewN | apply below_drew1) | exact HB.out))) : w.heap.size ≤ gb218)); have n3_ := Aside0.mk ((by rw [hg]; exact (below_size (by repeat (first | (with_reducible first | exact HB.out | apply below_alloc | apply pw_below_drewN | apply below_drew1) | exact HB.out))) : w.heap.size ≤ gb218)); clear HB; have HB := n0_; have BK218 := n1_; have GW218 := n2_; have GE218 := n3_; clear n0_ n1_ n2_ n3_; clear hb hbox hg; have hcz6_0 : w5.cell? ⟨gb218, 0, none⟩ = some (.string (⟨#[]⟩ : ByteArray)) := (blk_cell BK218.out 0).trans rfl; have hcz6_1 : w5.cell? ⟨gb218, 1, none⟩ = some (.int .i64 0) := (blk_cell BK218.out 1).trans rfl; have hcz6_2 : w5.cell? ⟨gb218, 2, none⟩ = some (.int .i64 0) := (blk_cell BK218.out 2).trans rfl; have hcz6_3 : w5.cell? ⟨gb218, 3, none⟩ = some (.int .i64 0) := (blk_cell BK218.out 3).trans rfl; have hcz6_4 : w5.cell? ⟨gb218, 4, none⟩ = some (.int .i64 0) := (blk_cell BK218.out 4).trans rfl; have hcz6_5 : w5.cell? ⟨gb218, 5, none⟩ = some (.int .i64 0) := (blk_cell BK218.out 5).trans rfl; have hfz6_0 := blk_frozen BK218.out 0; have hfz6_1 := blk_frozen BK218.out 1; have hfz6_2 := blk_frozen BK218.out 2; have hfz6_3 := blk_frozen BK218.out 3; have hfz6_4 := blk_frozen BK218.out 4; have hfz6_5 := blk_frozen BK218.out 5))
 refine bodyPost_ret (results_cell_row rfl _ _ gb218 51 #[.string a0, .int .i64 1, .int .i64 0, .int .i64 a1, .int .i64 a2, .int .i64 a3] (0, 0) _ rfl (by (with_reducible repeat (first | refine blk_drewN ?_ _ | refine blk_drew ?_ | refine blk_alloc ?_ _)); refine blk_put (cs := #[.string a0, .int .i64 1, .int .i64 0, .int .i64 a1, .int .i64 a2, .int .i64 0]) ?_ 5 _ rfl; (with_reducible repeat (first | refine blk_drewN ?_ _ | refine blk_drew ?_ | refine blk_alloc ?_ _)); refine blk_put (cs := #[.string a0, .int .i64 1, .int .i64 0, .int .i64 a1, .int .i64 0, .int .i64 0]) ?_ 4 _ rfl; (with_reducible repeat (first | refine blk_drewN ?_ _ | refine blk_drew ?_ | refine blk_alloc ?_ _)); refine blk_put (cs := #[.string a0, .int .i64 1, .int .i64 0, .int .i64 0, .int .i64 0, .int .i64 0]) ?_ 3 _ rfl; (with_reducible repeat (first | refine blk_drewN ?_ _ | refine blk_drew ?_ | refine blk_alloc ?_ _)); refine blk_put (cs := #[.string a0, .int .i64 1, .int .i64 0, .int .i64 0, .int .i64 0, .int .i64 0]) ?_ 2 _ rfl; (with_reducible repeat (first | refine blk_drewN ?_ _ | refine blk_drew ?_ | refine blk_alloc ?_ _)); refine blk_put (cs := #[.string a0, .int .i64 0, .int .i64 0, .int .i64 0, .int .i64 0, .int .i64 0]) ?_ 1 _ rfl; (with_reducible repeat (first | refine blk_drewN ?_ _ | refine blk_drew ?_ | refine blk_alloc ?_ _)); refine blk_put (cs := #[.string (⟨#[]⟩ : ByteArray), .int .i64 0, .int .i64 0, .int .i64 0, .int .i64 0, .int .i64 0]) ?_ 0 _ rfl; (with_reducible repeat (first | refine blk_drewN ?_ _ | refine blk_drew ?_ | refine blk_alloc ?_ _)); exact BK218.out) Try.underlying51 rfl (by kernel_rfl)) rfl ?_
 exact ⟨by first | rfl | (simp [errW_none, errW_some] <;> rfl) | (simp [*, errW_none, errW_some] <;> rfl), by repeat (first | (with_reducible first | exact HB.out | apply below_alloc | apply pw_below_drewN | apply below_drew1 | refine below_set ?_ GE218.out) | exact HB.out)⟩
end Go.Proofs.YthapikakneikbaaG
namespace Go.Proofs.YthapikakneikbaaG
open Go.RowKit Go.Proofs.YthapikakneikbaaW.PrintWords Go.Proofs.YthapikakneikbaaW.PrintLast Go.Proofs.YthapikakneikbaaW.PrintMore
attribute [local go_sem] max2_int min2_int max_two min_two max_three min_three max_four min_four   -- for this text's walks alone
set_option linter.unusedVariables false
set_option linter.unusedSimpArgs false
def selfstabref27_Vars.f  : Option ((List (S51))) := (selfstabref23_Number.f (⟨#[104]⟩ : ByteArray) 0 1 0).bind fun bt857 => (some (([(⟨bt857.1, bt857.2.1, bt857.2.2.1, bt857.2.2.2.1, bt857.2.2.2.2.1, bt857.2.2.2.2.2⟩ : S51)] : List (S51))))
set_option maxHeartbeats 8000000 in
set_option maxRecDepth 100000 in
theorem selfstabref27_Vars.calls  (r : List (S51)) (w : World) (h : selfstabref27_Vars.f  = some r) :
  Calls Try.prog 108 #[] w fun e w' => ∃ v0_ : Value, e = .returned (v0_) ∧ Kd.R k51 51 w' w.heap.size (fun _ => True) v0_ r ∧ Below w.heap.size w w' := by
 have HB := Aside0.mk (Below.refl w.heap.size w)
 have H : ((selfstabref23_Number.f (⟨#[104]⟩ : ByteArray) 0 1 0).bind fun bt857 => (some (([(⟨bt857.1, bt857.2.1, bt857.2.2.1, bt857.2.2.2.1, bt857.2.2.2.2.1, bt857.2.2.2.2.2⟩ : S51)] : List (S51))))) = some r := h
 clear h
 replace H := Option.bind_eq_some_iff.mp H
 obtain ⟨⟨t857, t858, t859, t860, t861, t862⟩, A10, H⟩ := H
 replace H : (some (([(⟨t857, t858, t859, t860, t861, t862⟩ : S51)] : List (S51)))) = some r := H
 have A1 := Aside0.mk A10
 clear A10
 obtain ⟨y863, hy863⟩ : ∃ y_ : List (S51), y_ = (([(⟨t857, t858, t859, t860, t861, t862⟩ : S51)] : List (S51))) := ⟨_, rfl⟩
 replace H : (some y863) = some r := by first | (rw [hy863]; with_reducible exact H) | (have H2_ := (Option.bind_some _ _).symm.trans H; rw [hy863]; with_reducible exact H2_) | (have H2_ := (Option.bind_some _ _).symm.trans H; with_reducible exact H2_) | with_reducible exact H | (rw [hy863]; exact H) | exact H
 have Ny863 := Aside0.mk hy863
 clear hy863
 obtain rfl := Option.some.inj H
 go_enter Try.func108, Try.ntmps108
 go_wp2_with (first | ((with_reducible refine gate_callee (f := 121) rfl ?_); refine goesL_ (some 1) rfl rfl Try.func121 (by kernel_rfl) rfl #[.string (⟨#[104]⟩ : ByteArray), .int .i64 0, .int .i64 1, .int .i64 0] rfl (by (try simp only [List.map_toArray, List.map_cons, List.map_nil]); first | done | rfl | (simp only [List.length_drop, List.length_take]; rfl)) ?_; (with_reducible refine (selfstabref23_Number.calls (⟨#[104]⟩ : ByteArray) 0 1 0 t857 t858 t859 t860 t861 t862 _ A1.out).mono ?_); rintro e w2 ⟨rfl, hb⟩; refine ⟨_, rfl, ?_⟩; have n0_ := Aside0.mk (below_step (by repeat (first | (with_reducible first | exact HB.out | apply below_alloc | apply pw_below_drewN | apply below_drew1) | exact HB.out)) hb); clear HB; have HB := n0_; clear n0_; (try clear hb); (try clear hb2); (try clear hk); (try clear hi)) | ((with_reducible refine gate_dst (N := 2) rfl ?_); refine Kd.R_lit k51 _ 51 ?hg (N := 2) ?hd (xs := ([(⟨t857, t858, t859, t860, t861, t862⟩ : S51)] : List (S51))) (inner := [.string t857, .int .i64 t858, .int .i64 t859, .int .i64 t860, .int .i64 t861, .int .i64 t862]) (ok := fun _ => True) (okp := fun _ => True) ?hr ?hp (fun _ hk => hk) trivial (Below.refl _ _) (Nat.le_refl _) (by simp) ?_; (case hd => rfl); (case hg => rfl); (case hr => first | (go_simp; done) | (go_simp; rfl)); (case hp => exact (Reps.c6 (show Kd.M k51 _ _ _ (⟨t857, t858, t859, t860, t861, t862⟩ : S51) [.string t857, .int .i64 t858, .int .i64 t859, .int .i64 t860, .int .i64 t861, .int .i64 t862] from (k51_mkM _ _ _ (⟨t857, t858, t859, t860, t861, t862⟩ : S51) )) (Reps.none _ _))); intro v864 w3 ho4 hb hg_ hnew_; clear hg_ hnew_; (first | rw [← Ny863.out] at ho4 | (simp only [Int.reduceToNat] at ho4; rw [← Ny863.out] at ho4)); have n0_ := Aside0.mk (Kd.R_lower ho4 (below_size (by repeat (first | (with_reducible first | exact HB.out | apply below_alloc | apply pw_below_drewN | apply below_drew1) | exact HB.out)))); have n1_ := Aside0.mk (below_step (by repeat (first | (with_reducible first | exact HB.out | apply below_alloc | apply pw_below_drewN | apply below_drew1) | exact HB.out)) hb); clear HB; have HO865 := n0_; have HB := n1_; clear n0_ n1_; clear hb ho4))
 go_ret
 exact ⟨_, by first | rfl | (simp [errW_none, errW_some] <;> rfl) | (simp [*, errW_none, errW_some] <;> rfl), by (with_reducible repeat (first | apply Kd.R_alloc | apply Kd.R_drewN | apply Kd.R_drew)); exact HO865.out, by repeat (first | (with_reducible first | exact HB.out | apply below_alloc | apply pw_below_drewN | apply below_drew1) | exact HB.out)⟩
end Go.Proofs.YthapikakneikbaaG
namespace Go.Proofs.YthapikakneikbaaG
open Go.RowKit Go.Proofs.YthapikakneikbaaW.PrintWords Go.Proofs.YthapikakneikbaaW.PrintLast Go.Proofs.YthapikakneikbaaW.PrintMore
attribute [local go_sem] max2_int min2_int max_two min_two max_three min_three max_four min_four   -- for this text's walks alone
set_option linter.unusedVariables false
set_option linter.unusedSimpArgs false
def selfstabref27_Exact.l0 : Nat → List (List Int) → Int → Int → List Int → List (List (S60)) → Option (Bool)
 | 0, _, _, _, _, _ => none
 | k + 1, x1, x2, x7, x877000, x877001 => if x7 < (x1.length : Int) then (if 0 ≤ x7 then (if 0 ≤ x2 then (if x2 < ((rd_L3 x1 x7).length : Int) then ((selfstabref27_Height.f k x877000 x877001 x7).bind fun t879 => (if (rd (rd_L3 x1 x7) x2) = t879 then (selfstabref27_Exact.l0 k x1 x2 (wrap64 (x7 + 1)) x877000 x877001) else (some false))) else (none)) else (none)) else (none)) else (some true)
def selfstabref27_Exact.f (k : Nat) (l0_0 : List Int) (l0_1 : List (List (S60))) (l1 : List (List Int)) (a2 : Int) : Option (Bool) := selfstabref27_Exact.l0 k l1 a2 0 l0_0 l0_1
theorem selfstabref27_Exact.mono_l : ∀ k, (∀ y0 y1 y2 y3 y4, LeO (selfstabref27_Exact.l0 k y0 y1 y2 y3 y4) (selfstabref27_Exact.l0 (k + 1) y0 y1 y2 y3 y4))
 | 0 => fun _ _ _ _ _ r h => by simp [selfstabref27_Exact.l0] at h
 | k + 1 => by
  have ih0 := selfstabref27_Exact.mono_l k
  ·
   intro y0 y1 y2 y3 y4
   unfold selfstabref27_Exact.l0
   repeat' first
   | (with_reducible exact ih0 _ _ _ _ _)
   | (with_reducible exact selfstabref27_Height.mono _ _ _ _)
   | (with_reducible exact LeO.refl _)
   | (with_reducible exact LeO.none _)
   | (with_reducible refine LeO.ite ?_ ?_)
   | (with_reducible refine LeO.bind ?_ (fun _ => ?_))
   | exact ih0 _ _ _ _ _
   | exact selfstabref27_Height.mono _ _ _ _
   | exact LeO.none _
   | refine LeO.ite ?_ ?_
   | refine LeO.bind ?_ (fun _ => ?_)
theorem selfstabref27_Exact.mono : ∀ a0 a1 a2 a3 k, LeO (selfstabref27_Exact.f k a0 a1 a2 a3) (selfstabref27_Exact.f (k + 1) a0 a1 a2 a3) := by
 intro a0 a1 a2 a3 k
 have ih0 := selfstabref27_Exact.mono_l k
 unfold selfstabref27_Exact.f
 repeat' first
   | (with_reducible exact ih0 _ _ _ _ _)
   | (with_reducible exact selfstabref27_Height.mono _ _ _ _)
   | (with_reducible exact LeO.refl _)
   | (with_reducible exact LeO.none _)
   | (with_reducible refine LeO.ite ?_ ?_)
   | (with_reducible refine LeO.bind ?_ (fun _ => ?_))
   | exact ih0 _ _ _ _ _
   | exact selfstabref27_Height.mono _ _ _ _
   | exact LeO.none _
   | refine LeO.ite ?_ ?_
   | refine LeO.bind ?_ (fun _ => ?_)
def selfstabref27_Exact.T4 : Bool × List (List Nat × List Nat) := (true, [([], []), ([], []), ([0, 1], [0, 1]), ([2], [2]), ([], []), ([3, 4], [3, 4]), ([5], [5]), ([], []), ([], []), ([7, 8], [7, 8]), ([6, 9], [6, 9])])
def selfstabref27_Exact.B4 : List Nat := [0, 0, 3, 7, 0, 31, 63, 0, 0, 384, 1023]
theorem selfstabref27_Exact.tab4 : rtab .any (opsOf Try.f109 4) = selfstabref27_Exact.T4 := by kernel_rfl
theorem selfstabref27_Exact.bits4 : waitsOk selfstabref27_Exact.T4.2 selfstabref27_Exact.B4 = true := by kernel_rfl
set_option maxHeartbeats 8000000 in
set_option maxRecDepth 100000 in
theorem selfstabref27_Exact.calls (k : Nat) (A0_0 : Option Addr) (c0_0 : Nat) (l0_0 : List Int) (A0_1 : Option Addr) (c0_1 : Nat) (l0_1 : List (List (S60))) (A1 : Option Addr) (c1 : Nat) (l1 : List (List Int)) (a2 : Int) (r : Bool) (w : World) (hr0_0 : Kd.C (Kd.int .i64) w A0_0 l0_0.length l0_0) (hc0_0 : l0_0.length ≤ c0_0) (hr0_1 : Kd.C (Kd.slice 60 k60) w A0_1 l0_1.length l0_1) (hc0_1 : l0_1.length ≤ c0_1) (hr1 : Kd.C (Kd.slice 3 (Kd.int .i64)) w A1 l1.length l1) (hc1 : l1.length ≤ c1) (h : selfstabref27_Exact.f k l0_0 l0_1 l1 a2 = some r) :
  Calls Try.prog 109 #[.agg #[.slice A0_0 l0_0.length c0_0, .slice A0_1 l0_1.length c0_1], .slice A1 l1.length c1, .int .i64 a2] w fun e w' => e = .returned (.bool r) ∧ Below w.heap.size w w' := by
 have hu27 := Try.underlying27
 have HR0_0 := Aside0.mk hr0_0
 have HC0_0 := Aside0.mk hc0_0
 clear hr0_0 hc0_0
 have HR0_1 := Aside0.mk hr0_1
 have HC0_1 := Aside0.mk hc0_1
 clear hr0_1 hc0_1
 have HR1 := Aside0.mk hr1
 have HC1 := Aside0.mk hc1
 clear hr1 hc1
 have HB := Aside0.mk (Below.refl w.heap.size w)
 have H : (selfstabref27_Exact.l0 k l1 a2 0 l0_0 l0_1) = some r := h
 clear h
 have H' := Aside0.mk H
 clear H
 go_enter Try.func109, Try.ntmps109
 go_wp2_with (first | ((with_reducible refine gate_dst (N := 3) rfl ?_); refine box_event ?hg (N := 3) ?hd (cs := #[.slice A0_0 l0_0.length c0_0, .slice A0_1 l0_1.length c0_1]) (t := 27) ?hr ?_; (case hd => rfl); (case hg => rfl); (case hr => first | (go_simp; done) | (go_simp; rfl)); intro gb876 hg w4 hbox hb; have n0_ := Aside0.mk (below_step (by repeat (first | (with_reducible first | exact HB.out | apply below_alloc | apply pw_below_drewN | apply below_drew1) | exact HB.out)) hb); have n1_ := Aside0.mk (hbox); have n2_ := Aside0.mk ((by rw [hg]; exact (below_size (by repeat (first | (with_reducible first | exact HB.out | apply below_alloc | apply pw_below_drewN | apply below_drew1) | exact HB.out))) : w.heap.size ≤ gb876)); have n3_ := Aside0.mk ((by rw [hg]; exact (below_size (by repeat (first | (with_reducible first | exact HB.out | apply below_alloc | apply pw_below_drewN | apply below_drew1) | exact HB.out))) : w.heap.size ≤ gb876)); clear HB; have HB := n0_; have BK876 := n1_; have GW876 := n2_; have GE876 := n3_; clear n0_ n1_ n2_ n3_; clear hb hbox hg))
 go_loopg [7] k (fun kq v7 w' => ∃ (x7_1 : Int), v7 = .int .i64 x7_1 ∧ Aside0 (selfstabref27_Exact.l0 kq l1 a2 x7_1 l0_0 l0_1 = some r) ∧ Aside0 (kq ≤ k) ∧ Aside0 (w'.heap[gb876]? = some (.cells #[(.slice A0_0 l0_0.length c0_0), (.slice A0_1 l0_1.length c0_1)] 27 (0, 0))) ∧ Aside0 (Below w.heap.size w w'))
 case atStart => exact ⟨(0), (by first | rfl | (simp; done) | (simp [*]; done)), H', ⟨Nat.le_refl _⟩, ⟨by (with_reducible repeat (first | refine blk_drewN ?_ _ | refine blk_drew ?_ | refine blk_alloc ?_ _)); exact BK876.out⟩, ⟨by repeat (first | (with_reducible first | exact HB.out | apply below_alloc | apply pw_below_drewN | apply below_drew1 | refine below_set ?_ GE876.out) | exact HB.out)⟩⟩
 case round =>
  clear H'
  try clear c1
  try clear p2
  obtain ⟨x7_1, rfl, HA, HK1, BK876, HB⟩ := hrel
  cases gk with
  | zero => exact absurd HA.out (by simp [selfstabref27_Exact.l0])
  | succ k1 =>
   have H := HA.out
   clear HA
   simp only [selfstabref27_Exact.l0] at H
   by_cases c5 : x7_1 < (l1.length : Int)
   ·
    rw [if_pos c5] at H
    have c5b0 : decide (x7_1 < (l1.length : Int)) = true := decide_eq_true c5
    clear c5
    by_cases c6 : 0 ≤ x7_1
    ·
     rw [if_pos c6] at H
     have c6b0 : decide (0 ≤ x7_1) = true := decide_eq_true c6
     clear c6
     by_cases c7 : 0 ≤ a2
     ·
      rw [if_pos c7] at H
      have c7b0 : decide (0 ≤ a2) = true := decide_eq_true c7
      clear c7
      by_cases c8 : a2 < ((rd_L3 l1 x7_1).length : Int)
      ·
       rw [if_pos c8] at H
       have c8b0 : decide (a2 < ((rd_L3 l1 x7_1).length : Int)) = true := decide_eq_true c8
       clear c8
       replace H := Option.bind_eq_some_iff.mp H
       obtain ⟨t879, A90, H⟩ := H
       replace H : (if (rd (rd_L3 l1 x7_1) a2) = t879 then (selfstabref27_Exact.l0 k1 l1 a2 (wrap64 (x7_1 + 1)) l0_0 l0_1) else (some false)) = some r := H
       have A9 := Aside0.mk A90
       clear A90
       by_cases c10 : (rd (rd_L3 l1 x7_1) a2) = t879
       ·
        rw [if_pos c10] at H
        have c10b0 : ((rd (rd_L3 l1 x7_1) a2) == t879) = true := beq_iff_eq.mpr c10
        have c10b1 : ((rd (rd_L3 l1 x7_1) a2) != t879) = false := bne_eq_false_iff_eq.mpr c10
        clear c10
        have H' := Aside0.mk H
        clear H
        try go_wp2
        have n0_ := Aside0.mk (blk_drew BK876.out)
        have n1_ := Aside0.mk (below_drew1 HB.out)
        clear BK876
        clear HB
        have BK876 := n0_
        have HB := n1_
        clear n0_ n1_
        have p877 : 0 ≤ (x7_1 : Int) := of_decide_eq_true (by first | (with_reducible assumption) | assumption)
        have q877 : x7_1 < (l1.length : Int) := of_decide_eq_true (by first | (with_reducible assumption) | assumption)
        obtain ⟨ad877, A877_0, c877_0, e877, hx877_0, hl877_0, hi877_0⟩ := at_L3 HR1.out x7_1 p877 q877
        have hw877_0 := hx877_0
        cases e877
        replace hx877_0 := (HB.out.cell (World.block_lt_of_cell? w _ hx877_0)).trans hx877_0
        have HR877_0 := Aside0.mk hi877_0
        have HC877_0 := Aside0.mk hl877_0
        clear hi877_0 hl877_0
        replace p877 := eq_true p877
        replace q877 := eq_true q877
        have p878 : 0 ≤ (a2 : Int) := of_decide_eq_true (by first | (with_reducible assumption) | assumption)
        have q878 : a2 < ((rd_L3 l1 x7_1).length : Int) := of_decide_eq_true (by first | (with_reducible assumption) | assumption)
        obtain ⟨ad878, e878, hx878_0⟩ := Kd.at_int HR877_0.out a2 p878 q878
        have hw878_0 := hx878_0
        cases e878
        replace hx878_0 := (HB.out.cell (World.block_lt_of_cell? w _ hx878_0)).trans hx878_0
        replace p878 := eq_true p878
        replace q878 := eq_true q878
        refine start_ (n := 11) (S := fun w' => w'.cell? ⟨gb876, 0, none⟩ = some (.slice A0_0 l0_0.length c0_0) ∧ w'.cell? ⟨gb876, 1, none⟩ = some (.slice A0_1 l0_1.length c0_1) ∧ w'.cell? (ad877.add (x7_1).toNat) = some (.slice (some ad878) (rd_L3 l1 x7_1).length c877_0) ∧ w'.cell? (ad878.add (a2).toNat) = some (.int .i64 (rd (rd_L3 l1 x7_1) a2))) (ds := []) #[false, false, false, false, false, false, false, false, false, false, false] (by kernel_rfl) rfl rfl ⟨(blk_cell BK876.out 0).trans rfl, (blk_cell BK876.out 1).trans rfl, ((HB.out.cell (World.block_lt_of_cell? w _ hw877_0)).trans hw877_0), ((HB.out.cell (World.block_lt_of_cell? w _ hw878_0)).trans hw878_0)⟩ (fun hHeld => ?_); refine with_tabW selfstabref27_Exact.tab4 selfstabref27_Exact.bits4 (fun HT_ HW_ => ?_)
        generalize wr.drew = w11 at BK876 HB HR877_0 hx877_0 hx878_0 hHeld ⊢
        refine pure_ (i := 0) (N := some 14) (v := ?_) (a' := ?_) #[true, false, false, false, false, false, false, false, false, false, false] rfl rfl (any_of HT_.out (by kernel_rfl)) (fun _ _ _ h => h) (Or.inl ⟨by rfl, ?_⟩) ?_ ?_
        rotate_left
        ·
         intro w'
         go_simp
         with_reducible rfl
        rotate_left
        ·
         simp only [Act.put, List.setIfInBounds_toArray, List.set_cons_zero, List.set_cons_succ, i64_w, i32_w]
         rfl
        refine pure_ (i := 1) (N := some 15) (v := ?_) (a' := ?_) #[true, true, false, false, false, false, false, false, false, false, false] rfl rfl (any_of HT_.out (by kernel_rfl)) (fun _ _ _ h => h) (Or.inl ⟨by rfl, ?_⟩) ?_ ?_
        rotate_left
        ·
         intro w'
         go_simp
         with_reducible rfl
        rotate_left
        ·
         simp only [Act.put, List.setIfInBounds_toArray, List.set_cons_zero, List.set_cons_succ, i64_w, i32_w]
         rfl
        refine pure_ (i := 2) (N := some 16) (v := ?_) (a' := ?_) #[true, true, true, false, false, false, false, false, false, false, false] rfl rfl (any_of HT_.out (by kernel_rfl)) (fun _ _ _ h => h) (Or.inl ⟨by rfl, ?_⟩) ?_ ?_
        rotate_left
        ·
         intro w'
         go_simp
         with_reducible rfl
        rotate_left
        ·
         simp only [Act.put, List.setIfInBounds_toArray, List.set_cons_zero, List.set_cons_succ, i64_w, i32_w]
         rfl
        refine pure_ (i := 4) (N := some 18) (v := ?_) (a' := ?_) #[true, true, true, false, true, false, false, false, false, false, false] rfl rfl (any_of HT_.out (by kernel_rfl)) (fun _ _ _ h => h) (Or.inl ⟨by rfl, ?_⟩) ?_ ?_
        rotate_left
        ·
         intro w'
         go_simp
         with_reducible rfl
        rotate_left
        ·
         simp only [Act.put, List.setIfInBounds_toArray, List.set_cons_zero, List.set_cons_succ, i64_w, i32_w]
         rfl
        refine pure_ (i := 8) (N := some 22) (v := ?_) (a' := ?_) #[true, true, true, false, true, false, false, false, true, false, false] rfl rfl (any_of HT_.out (by kernel_rfl)) (fun _ _ _ h => h) (Or.inl ⟨by rfl, ?_⟩) ?_ ?_
        rotate_left
        ·
         intro w'
         go_simp
         with_reducible rfl
        rotate_left
        ·
         simp only [Act.put, List.setIfInBounds_toArray, List.set_cons_zero, List.set_cons_succ, i64_w, i32_w]
         rfl
        refine take_ (i := 3) (N := some 17) (v := ?_) (a' := ?_) #[true, true, true, true, true, false, false, false, true, false, false] rfl rfl (take_ofW HT_.out HW_.out (by kernel_rfl)) (fun _ _ _ h => h) (Or.inl ⟨by rfl, ?_⟩) hHeld ?_ ?_
        rotate_left
        ·
         rintro w' ⟨s0, s1, s2, s3⟩
         go_simp
         with_reducible rfl
        rotate_left
        ·
         simp only [Act.put, List.setIfInBounds_toArray, List.set_cons_zero, List.set_cons_succ, i64_w, i32_w]
         rfl
        refine pure_ (i := 5) (N := some 19) (v := ?_) (a' := ?_) #[true, true, true, true, true, true, false, false, true, false, false] rfl rfl (any_of HT_.out (by kernel_rfl)) (fun _ _ _ h => h) (Or.inl ⟨by rfl, ?_⟩) ?_ ?_
        rotate_left
        ·
         intro w'
         go_simp
         with_reducible rfl
        rotate_left
        ·
         simp only [Act.put, List.setIfInBounds_toArray, List.set_cons_zero, List.set_cons_succ, i64_w, i32_w]
         rfl
        refine take_ (i := 6) (N := some 20) (v := ?_) (a' := ?_) #[true, true, true, true, true, true, true, false, true, false, false] rfl rfl (take_ofW HT_.out HW_.out (by kernel_rfl)) (fun _ _ _ h => h) (Or.inl ⟨by rfl, ?_⟩) hHeld ?_ ?_
        rotate_left
        ·
         rintro w' ⟨s0, s1, s2, s3⟩
         go_simp
         with_reducible rfl
        rotate_left
        ·
         simp only [Act.put, List.setIfInBounds_toArray, List.set_cons_zero, List.set_cons_succ, i64_w, i32_w]
         rfl
        refine take_ (i := 7) (N := some 21) (v := ?_) (a' := ?_) #[true, true, true, true, true, true, true, true, true, false, false] rfl rfl (take_ofW HT_.out HW_.out (by kernel_rfl)) (fun _ _ _ h => h) (Or.inl ⟨by rfl, ?_⟩) hHeld ?_ ?_
        rotate_left
        ·
         rintro w' ⟨s0, s1, s2, s3⟩
         go_simp
         with_reducible rfl
        rotate_left
        ·
         simp only [Act.put, List.setIfInBounds_toArray, List.set_cons_zero, List.set_cons_succ, i64_w, i32_w]
         rfl
        refine one_ (i := 9) (N := some 23) #[true, true, true, true, true, true, true, true, true, true, false] rfl rfl (one_of HT_.out (by kernel_rfl)) (by decide) (fun K hK => ?_)
        refine goes_ Try.func131 (by kernel_rfl) rfl #[.agg #[.slice A0_0 l0_0.length c0_0, .slice A0_1 l0_1.length c0_1], .int .i64 x7_1] (by rfl) rfl rfl (by (try simp only [List.map_toArray, List.map_cons, List.map_nil]); first | done | rfl | (simp only [List.length_drop, List.length_take]; rfl)) ?_
        with_reducible refine (selfstabref27_Height.calls k1 _ _ l0_0 _ _ l0_1 x7_1 t879 _ ?side1 ?side2 ?side3 ?side4 A9.out).mono ?_
        (case side1 => repeat (first | exact (Kd.C_below HR0_0.out HB.out) | (with_reducible refine Kd.C_alloc ?_ _) | (with_reducible refine Kd.C_drewN ?_ _) | (with_reducible refine Kd.C_drew ?_)))
        (case side2 => exact HC0_0.out)
        (case side3 => repeat (first | exact (Kd.C_below HR0_1.out HB.out) | (with_reducible refine Kd.C_alloc ?_ _) | (with_reducible refine Kd.C_drewN ?_ _) | (with_reducible refine Kd.C_drew ?_)))
        (case side4 => exact HC0_1.out)
        rintro e w12 ⟨rfl, hb⟩
        refine ⟨_, rfl, ?_⟩
        have n0_ := Aside0.mk (blk_below (g := gb876) (o := .cells #[.slice A0_0 l0_0.length c0_0, .slice A0_1 l0_1.length c0_1] 27 (0, 0)) (by (with_reducible repeat (first | refine blk_drewN ?_ _ | refine blk_drew ?_ | refine blk_alloc ?_ _)); exact BK876.out) hb)
        have n1_ := Aside0.mk (below_step (by repeat (first | (with_reducible first | exact HB.out | apply below_alloc | apply pw_below_drewN | apply below_drew1 | refine below_set ?_ GE876.out) | exact HB.out)) hb)
        clear BK876
        clear HB
        have BK876 := n0_
        have HB := n1_
        clear n0_ n1_
        (try clear hb)
        (try clear hb2)
        (try clear hk)
        (try clear hi)
        refine hK.out _ _ ⟨(blk_cell BK876.out 0).trans rfl, (blk_cell BK876.out 1).trans rfl, ((HB.out.cell (World.block_lt_of_cell? w _ hw877_0)).trans hw877_0), ((HB.out.cell (World.block_lt_of_cell? w _ hw878_0)).trans hw878_0)⟩ (fun hHeld => ?_)
        clear hK K
        refine norm_ (a' := ?_) ?_ ?_
        rotate_left
        ·
         show Act.put _ (some 23) _ = _
         simp only [Act.put, List.setIfInBounds_toArray, List.set_cons_zero, List.set_cons_succ, i64_w, i32_w]
         rfl
        refine pure_ (i := 10) (N := some 24) (v := ?_) (a' := ?_) #[true, true, true, true, true, true, true, true, true, true, true] rfl rfl (any_of HT_.out (by kernel_rfl)) (fun _ _ _ h => h) (Or.inl ⟨by rfl, ?_⟩) ?_ ?_
        rotate_left
        ·
         intro w'
         go_simp
         with_reducible rfl
        rotate_left
        ·
         simp only [Act.put, List.setIfInBounds_toArray, List.set_cons_zero, List.set_cons_succ, i64_w, i32_w]
         rfl
        refine done_ (done_of HT_.out (by kernel_rfl)) ?_
        try go_wp2
        go_roundg k1
        case measure => have := HK1.out; omega
        case rel => exact ⟨(wrap64 (x7_1 + 1)), (by first | rfl | (simp; done) | (simp [*]; done)), H', ⟨by have := HK1.out; omega⟩, ⟨by (with_reducible repeat (first | refine blk_drewN ?_ _ | refine blk_drew ?_ | refine blk_alloc ?_ _)); exact BK876.out⟩, ⟨by repeat (first | (with_reducible first | exact HB.out | apply below_alloc | apply pw_below_drewN | apply below_drew1 | refine below_set ?_ GE876.out) | exact HB.out)⟩⟩
       ·
        rw [if_neg c10] at H
        have c10b0 : ((rd (rd_L3 l1 x7_1) a2) == t879) = false := beq_eq_false_iff_ne.mpr c10
        have c10b1 : ((rd (rd_L3 l1 x7_1) a2) != t879) = true := bne_iff_ne.mpr c10
        obtain rfl := Option.some.inj H
        try go_wp2
        have n0_ := Aside0.mk (blk_drew BK876.out)
        have n1_ := Aside0.mk (below_drew1 HB.out)
        clear BK876
        clear HB
        have BK876 := n0_
        have HB := n1_
        clear n0_ n1_
        have p877 : 0 ≤ (x7_1 : Int) := of_decide_eq_true (by first | (with_reducible assumption) | assumption)
        have q877 : x7_1 < (l1.length : Int) := of_decide_eq_true (by first | (with_reducible assumption) | assumption)
        obtain ⟨ad877, A877_0, c877_0, e877, hx877_0, hl877_0, hi877_0⟩ := at_L3 HR1.out x7_1 p877 q877
        have hw877_0 := hx877_0
        cases e877
        replace hx877_0 := (HB.out.cell (World.block_lt_of_cell? w _ hx877_0)).trans hx877_0
        have HR877_0 := Aside0.mk hi877_0
        have HC877_0 := Aside0.mk hl877_0
        clear hi877_0 hl877_0
        replace p877 := eq_true p877
        replace q877 := eq_true q877
        have p878 : 0 ≤ (a2 : Int) := of_decide_eq_true (by first | (with_reducible assumption) | assumption)
        have q878 : a2 < ((rd_L3 l1 x7_1).length : Int) := of_decide_eq_true (by first | (with_reducible assumption) | assumption)
        obtain ⟨ad878, e878, hx878_0⟩ := Kd.at_int HR877_0.out a2 p878 q878
        have hw878_0 := hx878_0
        cases e878
        replace hx878_0 := (HB.out.cell (World.block_lt_of_cell? w _ hx878_0)).trans hx878_0
        replace p878 := eq_true p878
        replace q878 := eq_true q878
        refine start_ (n := 11) (S := fun w' => w'.cell? ⟨gb876, 0, none⟩ = some (.slice A0_0 l0_0.length c0_0) ∧ w'.cell? ⟨gb876, 1, none⟩ = some (.slice A0_1 l0_1.length c0_1) ∧ w'.cell? (ad877.add (x7_1).toNat) = some (.slice (some ad878) (rd_L3 l1 x7_1).length c877_0) ∧ w'.cell? (ad878.add (a2).toNat) = some (.int .i64 (rd (rd_L3 l1 x7_1) a2))) (ds := []) #[false, false, false, false, false, false, false, false, false, false, false] (by kernel_rfl) rfl rfl ⟨(blk_cell BK876.out 0).trans rfl, (blk_cell BK876.out 1).trans rfl, ((HB.out.cell (World.block_lt_of_cell? w _ hw877_0)).trans hw877_0), ((HB.out.cell (World.block_lt_of_cell? w _ hw878_0)).trans hw878_0)⟩ (fun hHeld => ?_); refine with_tabW selfstabref27_Exact.tab4 selfstabref27_Exact.bits4 (fun HT_ HW_ => ?_)
        generalize wr.drew = w13 at BK876 HB HR877_0 hx877_0 hx878_0 hHeld ⊢
        refine pure_ (i := 0) (N := some 14) (v := ?_) (a' := ?_) #[true, false, false, false, false, false, false, false, false, false, false] rfl rfl (any_of HT_.out (by kernel_rfl)) (fun _ _ _ h => h) (Or.inl ⟨by rfl, ?_⟩) ?_ ?_
        rotate_left
        ·
         intro w'
         go_simp
         with_reducible rfl
        rotate_left
        ·
         simp only [Act.put, List.setIfInBounds_toArray, List.set_cons_zero, List.set_cons_succ, i64_w, i32_w]
         rfl
        refine pure_ (i := 1) (N := some 15) (v := ?_) (a' := ?_) #[true, true, false, false, false, false, false, false, false, false, false] rfl rfl (any_of HT_.out (by kernel_rfl)) (fun _ _ _ h => h) (Or.inl ⟨by rfl, ?_⟩) ?_ ?_
        rotate_left
        ·
         intro w'
         go_simp
         with_reducible rfl
        rotate_left
        ·
         simp only [Act.put, List.setIfInBounds_toArray, List.set_cons_zero, List.set_cons_succ, i64_w, i32_w]
         rfl
        refine pure_ (i := 2) (N := some 16) (v := ?_) (a' := ?_) #[true, true, true, false, false, false, false, false, false, false, false] rfl rfl (any_of HT_.out (by kernel_rfl)) (fun _ _ _ h => h) (Or.inl ⟨by rfl, ?_⟩) ?_ ?_
        rotate_left
        ·
         intro w'
         go_simp
         with_reducible rfl
        rotate_left
        ·
         simp only [Act.put, List.setIfInBounds_toArray, List.set_cons_zero, List.set_cons_succ, i64_w, i32_w]
         rfl
        refine pure_ (i := 4) (N := some 18) (v := ?_) (a' := ?_) #[true, true, true, false, true, false, false, false, false, false, false] rfl rfl (any_of HT_.out (by kernel_rfl)) (fun _ _ _ h => h) (Or.inl ⟨by rfl, ?_⟩) ?_ ?_
        rotate_left
        ·
         intro w'
         go_simp
         with_reducible rfl
        rotate_left
        ·
         simp only [Act.put, List.setIfInBounds_toArray, List.set_cons_zero, List.set_cons_succ, i64_w, i32_w]
         rfl
        refine pure_ (i := 8) (N := some 22) (v := ?_) (a' := ?_) #[true, true, true, false, true, false, false, false, true, false, false] rfl rfl (any_of HT_.out (by kernel_rfl)) (fun _ _ _ h => h) (Or.inl ⟨by rfl, ?_⟩) ?_ ?_
        rotate_left
        ·
         intro w'
         go_simp
         with_reducible rfl
        rotate_left
        ·
         simp only [Act.put, List.setIfInBounds_toArray, List.set_cons_zero, List.set_cons_succ, i64_w, i32_w]
         rfl
        refine take_ (i := 3) (N := some 17) (v := ?_) (a' := ?_) #[true, true, true, true, true, false, false, false, true, false, false] rfl rfl (take_ofW HT_.out HW_.out (by kernel_rfl)) (fun _ _ _ h => h) (Or.inl ⟨by rfl, ?_⟩) hHeld ?_ ?_
        rotate_left
        ·
         rintro w' ⟨s0, s1, s2, s3⟩
         go_simp
         with_reducible rfl
        rotate_left
        ·
         simp only [Act.put, List.setIfInBounds_toArray, List.set_cons_zero, List.set_cons_succ, i64_w, i32_w]
         rfl
        refine pure_ (i := 5) (N := some 19) (v := ?_) (a' := ?_) #[true, true, true, true, true, true, false, false, true, false, false] rfl rfl (any_of HT_.out (by kernel_rfl)) (fun _ _ _ h => h) (Or.inl ⟨by rfl, ?_⟩) ?_ ?_
        rotate_left
        ·
         intro w'
         go_simp
         with_reducible rfl
        rotate_left
        ·
         simp only [Act.put, List.setIfInBounds_toArray, List.set_cons_zero, List.set_cons_succ, i64_w, i32_w]
         rfl
        refine take_ (i := 6) (N := some 20) (v := ?_) (a' := ?_) #[true, true, true, true, true, true, true, false, true, false, false] rfl rfl (take_ofW HT_.out HW_.out (by kernel_rfl)) (fun _ _ _ h => h) (Or.inl ⟨by rfl, ?_⟩) hHeld ?_ ?_
        rotate_left
        ·
         rintro w' ⟨s0, s1, s2, s3⟩
         go_simp
         with_reducible rfl
        rotate_left
        ·
         simp only [Act.put, List.setIfInBounds_toArray, List.set_cons_zero, List.set_cons_succ, i64_w, i32_w]
         rfl
        refine take_ (i := 7) (N := some 21) (v := ?_) (a' := ?_) #[true, true, true, true, true, true, true, true, true, false, false] rfl rfl (take_ofW HT_.out HW_.out (by kernel_rfl)) (fun _ _ _ h => h) (Or.inl ⟨by rfl, ?_⟩) hHeld ?_ ?_
        rotate_left
        ·
         rintro w' ⟨s0, s1, s2, s3⟩
         go_simp
         with_reducible rfl
        rotate_left
        ·
         simp only [Act.put, List.setIfInBounds_toArray, List.set_cons_zero, List.set_cons_succ, i64_w, i32_w]
         rfl
        refine one_ (i := 9) (N := some 23) #[true, true, true, true, true, true, true, true, true, true, false] rfl rfl (one_of HT_.out (by kernel_rfl)) (by decide) (fun K hK => ?_)
        refine goes_ Try.func131 (by kernel_rfl) rfl #[.agg #[.slice A0_0 l0_0.length c0_0, .slice A0_1 l0_1.length c0_1], .int .i64 x7_1] (by rfl) rfl rfl (by (try simp only [List.map_toArray, List.map_cons, List.map_nil]); first | done | rfl | (simp only [List.length_drop, List.length_take]; rfl)) ?_
        with_reducible refine (selfstabref27_Height.calls k1 _ _ l0_0 _ _ l0_1 x7_1 t879 _ ?side1 ?side2 ?side3 ?side4 A9.out).mono ?_
        (case side1 => repeat (first | exact (Kd.C_below HR0_0.out HB.out) | (with_reducible refine Kd.C_alloc ?_ _) | (with_reducible refine Kd.C_drewN ?_ _) | (with_reducible refine Kd.C_drew ?_)))
        (case side2 => exact HC0_0.out)
        (case side3 => repeat (first | exact (Kd.C_below HR0_1.out HB.out) | (with_reducible refine Kd.C_alloc ?_ _) | (with_reducible refine Kd.C_drewN ?_ _) | (with_reducible refine Kd.C_drew ?_)))
        (case side4 => exact HC0_1.out)
        rintro e w14 ⟨rfl, hb⟩
        refine ⟨_, rfl, ?_⟩
        have n0_ := Aside0.mk (blk_below (g := gb876) (o := .cells #[.slice A0_0 l0_0.length c0_0, .slice A0_1 l0_1.length c0_1] 27 (0, 0)) (by (with_reducible repeat (first | refine blk_drewN ?_ _ | refine blk_drew ?_ | refine blk_alloc ?_ _)); exact BK876.out) hb)
        have n1_ := Aside0.mk (below_step (by repeat (first | (with_reducible first | exact HB.out | apply below_alloc | apply pw_below_drewN | apply below_drew1 | refine below_set ?_ GE876.out) | exact HB.out)) hb)
        clear BK876
        clear HB
        have BK876 := n0_
        have HB := n1_
        clear n0_ n1_
        (try clear hb)
        (try clear hb2)
        (try clear hk)
        (try clear hi)
        refine hK.out _ _ ⟨(blk_cell BK876.out 0).trans rfl, (blk_cell BK876.out 1).trans rfl, ((HB.out.cell (World.block_lt_of_cell? w _ hw877_0)).trans hw877_0), ((HB.out.cell (World.block_lt_of_cell? w _ hw878_0)).trans hw878_0)⟩ (fun hHeld => ?_)
        clear hK K
        refine norm_ (a' := ?_) ?_ ?_
        rotate_left
        ·
         show Act.put _ (some 23) _ = _
         simp only [Act.put, List.setIfInBounds_toArray, List.set_cons_zero, List.set_cons_succ, i64_w, i32_w]
         rfl
        refine pure_ (i := 10) (N := some 24) (v := ?_) (a' := ?_) #[true, true, true, true, true, true, true, true, true, true, true] rfl rfl (any_of HT_.out (by kernel_rfl)) (fun _ _ _ h => h) (Or.inl ⟨by rfl, ?_⟩) ?_ ?_
        rotate_left
        ·
         intro w'
         go_simp
         with_reducible rfl
        rotate_left
        ·
         simp only [Act.put, List.setIfInBounds_toArray, List.set_cons_zero, List.set_cons_succ, i64_w, i32_w]
         rfl
        refine done_ (done_of HT_.out (by kernel_rfl)) ?_
        try go_wp2
        go_ret
        exact ⟨by first | rfl | (simp [errW_none, errW_some] <;> rfl) | (simp [*, errW_none, errW_some] <;> rfl), by repeat (first | (with_reducible first | exact HB.out | apply below_alloc | apply pw_below_drewN | apply below_drew1 | refine below_set ?_ GE876.out) | exact HB.out)⟩
      ·
       rw [if_neg c8] at H
       exact absurd H (by simp)
     ·
      rw [if_neg c7] at H
      exact absurd H (by simp)
    ·
     rw [if_neg c6] at H
     exact absurd H (by simp)
   ·
    rw [if_neg c5] at H
    have c5b0 : decide (x7_1 < (l1.length : Int)) = false := decide_eq_false c5
    clear c5
    obtain rfl := Option.some.inj H
    go_wp2
    go_ret
    exact ⟨by first | rfl | (simp [errW_none, errW_some] <;> rfl) | (simp [*, errW_none, errW_some] <;> rfl), by repeat (first | (with_reducible first | exact HB.out | apply below_alloc | apply pw_below_drewN | apply below_drew1 | refine below_set ?_ GE876.out) | exact HB.out)⟩
end Go.Proofs.YthapikakneikbaaG
