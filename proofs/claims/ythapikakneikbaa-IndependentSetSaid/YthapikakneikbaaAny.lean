/-
  selfstabworld.Net.Connected, Any.
-/
import Derived.Test.YthapikakneikbaaMore
namespace Go.Proofs.Ythapikakneikbaa
open Go.RowKit

def Net.n (x : Net) (most : Int) : Nat := nodeCount x.N most
def Net.treeG (x : Net) (most : Int) : Graph := ⟨nodeIds x.ids (x.n most), treeRows x (x.n most) (x.n most - 1)⟩
def Net.connG (x : Net) (most : Int) : Graph := ⟨nodeIds x.ids (x.n most), moreRows x (x.n most) (treeRows x (x.n most) (x.n most - 1))⟩
def Net.apartG (x : Net) (most : Int) : Graph := ⟨nodeIds x.ids (x.n most), moreRows x (x.n most) (List.replicate (x.n most) [])⟩
def Net.anyG (x : Net) (most : Int) : Graph := if x.ap then x.apartG most else x.connG most
section
variable (x : Net) {most : Int}
theorem Net.n_bd (hm : 1 ≤ most) : 1 ≤ x.n most ∧ (x.n most : Int) ≤ most := ⟨(nodeCount_bd hm).1, (nodeCount_bd hm).2.1⟩
theorem Net.tree_g (hm : 1 ≤ most) : Good (x.n most) (x.treeG most).ports := tree_good x _ _ (by have := x.n_bd hm; omega)
theorem Net.conn_g (hm : 1 ≤ most) : Good (x.n most) (x.connG most).ports := more_good x _ (x.n_bd hm).1 _ _ (x.tree_g hm)
theorem Net.apart_g (hm : 1 ≤ most) : Good (x.n most) (x.apartG most).ports := more_good x _ (x.n_bd hm).1 _ _ (good_none _)
theorem Net.any_g (hm : 1 ≤ most) : Good (x.n most) (x.anyG most).ports := by
  unfold Net.anyG; split
  · exact x.apart_g hm
  · exact x.conn_g hm
theorem Net.any_ids : (x.anyG most).ids = nodeIds x.ids (x.n most) := by unfold Net.anyG; split <;> rfl
theorem Net.any_len (hm : 1 ≤ most) : (x.anyG most).ports.length = x.n most := (x.any_g hm).len
theorem Net.any_idl : (x.anyG most).ids.length = x.n most := by rw [x.any_ids, nodeIds_length]
theorem Net.any_valid (hm : 1 ≤ most) (h2 : most ≤ 24) : (x.anyG most).valid = true := by
  have h := x.n_bd hm
  have h3 := nodeIds_ok x.ids (x.n most) (by omega)
  have h4 := x.any_ids (most := most)
  exact good_valid (ids := (x.anyG most).ids) (x.any_g hm) h.1 (by omega) x.any_idl (h4 ▸ h3.1) (h4 ▸ h3.2)
theorem Net.tree_valid (hm : 1 ≤ most) (h2 : most ≤ 24) : (x.treeG most).valid = true := by
  have h := x.n_bd hm
  have h3 := nodeIds_ok x.ids (x.n most) (by omega)
  exact good_valid (x.tree_g hm) h.1 (by omega) (nodeIds_length _ _) h3.1 h3.2
theorem Net.conn_valid (hm : 1 ≤ most) (h2 : most ≤ 24) : (x.connG most).valid = true := by
  have h := x.n_bd hm
  have h3 := nodeIds_ok x.ids (x.n most) (by omega)
  exact good_valid (x.conn_g hm) h.1 (by omega) (nodeIds_length _ _) h3.1 h3.2
end
theorem below_drew {B : Nat} {w W : World} (h : Below B w W) : Below B w W.drew := ⟨h.os, h.tape, h.output, h.size, h.block⟩
theorem Net.In.drew {x : Net} {w : World} {AL AW AI : Option Addr} (h : x.In w AL AW AI) : x.In w.drew AL AW AI := ⟨Kd.C_keep h.hL fun _ _ => rfl, Kd.C_keep h.hW fun _ _ => rfl, Kd.C_keep h.hI fun _ _ => rfl⟩
theorem Net.In.alloc {x : Net} {w : World} {AL AW AI : Option Addr} (h : x.In w AL AW AI) (o : Obj) : x.In (w.alloc o) AL AW AI := h.below ((Below.refl _ _).alloc (Nat.le_refl _) o)

/-- What a function that makes a graph of n nodes leaves: the graph's rows are the call's own. -/
def MadeN (B n : Nat) (g : Graph) (w w' : World) (e : Ending) : Prop :=
  ∃ A c P vs, e = .returned (.agg #[.slice A n c, .slice (some ⟨P, 0, none⟩) n n]) ∧ (n ≤ c ∧ g.ids.length = n ∧ g.ports.length = n) ∧ w'.ownsRow B 3 1 (.slice A n c) n (icells g.ids) ∧ PortsAt w' B P vs g.ports ∧ Below w.heap.size w w'
theorem tree_n (w : World) (x : Net) (AL AW AI : Option Addr) (cL cW cI : Nat) (hx : x.In w AL AW AI) (most : Int) (hm1 : 1 ≤ most) (hm2 : most ≤ 24) :
    Calls Try.prog 77 #[.agg #[.int .i64 x.N, .slice AL x.links.length cL, .slice AW x.weights.length cW, .slice AI x.ids.length cI, .bool x.ap, .bool x.back], .int .i64 most] w
      (fun e w' => MadeN w.heap.size (x.n most) (x.treeG most) w w' e) := by
  refine (tree_calls w x AL AW AI cL cW cI hx most hm1 hm2).mono ?_
  rintro e w' ⟨A, c, P, vs, rfl, hc, ho, hp, hb⟩
  have h1 : (nodeIds x.ids (nodeCount x.N most)).length = x.n most := nodeIds_length _ _
  have h2 : (treeRows x (nodeCount x.N most) (nodeCount x.N most - 1)).length = x.n most := (x.tree_g hm1).len
  rw [h1] at hc ho
  exact ⟨A, c, P, vs, by rw [h1, h2], ⟨hc, h1, h2⟩, ho, hp, hb⟩
theorem nodes_n (w : World) (x : Net) (AL AW AI : Option Addr) (cL cW cI : Nat) (hx : x.In w AL AW AI) (most : Int) (hm1 : 1 ≤ most) (hm2 : most ≤ 100) :
    Calls Try.prog 69 #[.agg #[.int .i64 x.N, .slice AL x.links.length cL, .slice AW x.weights.length cW, .slice AI x.ids.length cI, .bool x.ap, .bool x.back], .int .i64 most] w
      (fun e w' => MadeN w.heap.size (x.n most) ⟨nodeIds x.ids (x.n most), List.replicate (x.n most) []⟩ w w' e) := by
  refine (nodes_calls w x.N _ _ AI cI x.ids hx.hI x.ap x.back most hm1 hm2).mono ?_
  rintro e w' ⟨vI, P, rfl, ho, hp, hb⟩
  have hl : (nodeIds x.ids (nodeCount x.N most)).length = nodeCount x.N most := nodeIds_length x.ids (nodeCount x.N most)
  obtain ⟨A1, c1, hvI, hl1, _⟩ := ints_reads (xs := nodeIds x.ids (nodeCount x.N most)) (by rw [hl]; exact ho)
  rw [hl] at hl1 hvI
  subst hvI
  exact ⟨A1, c1, P, _, rfl, ⟨hl1, hl, by simp [Net.n]⟩, ho, hp, hb⟩

/-- The result's variable is stored: what has been made is still the call's own. -/
theorem made_store {w wr : World} {B P n c : Nat} {A1 : Option Addr} {vs : List Value} {g : Graph} (hB : w.heap.size + 1 < B) (hil : g.ids.length = n) (hrl : g.ports.length = n) (hc : n ≤ c)
    (bR : wr.heap[w.heap.size + 1]? = some (.cells #[nilRow, nilRow] 27 (0, 0))) (own : wr.ownsRow B 3 1 (.slice A1 n c) n (icells g.ids)) (hpa : PortsAt wr B P vs g.ports) (bel : Below w.heap.size w wr) :
    MadeN w.heap.size n g w ((wr.setCell ⟨w.heap.size + 1, 0, none⟩ (.slice A1 n c)).setCell ⟨w.heap.size + 1, 1, none⟩ (.slice (some ⟨P, 0, none⟩) n n)) (.returned (.agg #[.slice A1 n c, .slice (some ⟨P, 0, none⟩) n n])) := by
  have hb1 := blk_set 0 (.slice A1 n c) bR (by simp)
  have ho1 := own_keep own (grown_set wr ⟨w.heap.size + 1, 0, none⟩ (.slice A1 n c)) (fun k hk => by cases hk; exact own_ne own bR (by decide))
  have ho2 := own_keep ho1 (grown_set _ ⟨w.heap.size + 1, 1, none⟩ (.slice (some ⟨P, 0, none⟩) n n)) (fun k hk => by cases hk; exact own_ne ho1 hb1 (by decide))
  have hp1 := hpa.setNil (p := ⟨w.heap.size + 1, 0, none⟩) (u := .slice A1 n c) bR (by decide) (by decide)
  have hp2 := hp1.setNil (p := ⟨w.heap.size + 1, 1, none⟩) (u := .slice (some ⟨P, 0, none⟩) n n) hb1 (by decide) (by decide)
  exact ⟨A1, c, P, vs, rfl, ⟨hc, hil, hrl⟩, own_base ho2 (by omega), hp2.base (by omega), (bel.setCell (by simp) _).setCell (by simp) _⟩

set_option maxHeartbeats 4000000 in
set_option maxRecDepth 100000 in
theorem connected_calls (w : World) (x : Net) (AL AW AI : Option Addr) (cL cW cI : Nat) (hx : x.In w AL AW AI) (most : Int) (hm1 : 1 ≤ most) (hm2 : most ≤ 24) :
    Calls Try.prog 67 #[.agg #[.int .i64 x.N, .slice AL x.links.length cL, .slice AW x.weights.length cW, .slice AI x.ids.length cI, .bool x.ap, .bool x.back], .int .i64 most] w
      (fun e w' => MadeN w.heap.size (x.n most) (x.connG most) w w' e) := by
  have hn := x.n_bd hm1
  have hn24 : x.n most ≤ 24 := by omega
  have hn1 := hn.1
  clear hn
  have hil : (x.connG most).ids.length = x.n most := nodeIds_length _ _
  have hrl := (x.conn_g hm1).len
  have htl := (x.tree_g hm1).len
  have HTG := Lib.hid (x.tree_g hm1)
  have HIL := Lib.hid hil
  have HRL := Lib.hid hrl
  have HTL := Lib.hid htl
  clear hil hrl htl
  go_enter Try.func67, Try.ntmps67
  go_wp2_with fail
  have HIN := Lib.hid ((hx.alloc (.cells #[.int .i64 x.N, .slice AL x.links.length cL, .slice AW x.weights.length cW, .slice AI x.ids.length cI, .bool x.ap, .bool x.back] 24)).alloc (.cells #[nilRow, nilRow] 27))
  have HB0 := Lib.hid (((Below.refl w.heap.size w).alloc (Nat.le_refl _) (.cells #[.int .i64 x.N, .slice AL x.links.length cL, .slice AW x.weights.length cW, .slice AI x.ids.length cI, .bool x.ap, .bool x.back] 24)).alloc (by simp) (.cells #[nilRow, nilRow] 27))
  have bX : ((w.alloc (.cells #[.int .i64 x.N, .slice AL x.links.length cL, .slice AW x.weights.length cW, .slice AI x.ids.length cI, .bool x.ap, .bool x.back] 24)).alloc (.cells #[nilRow, nilRow] 27)).heap[w.heap.size]? = some (.cells #[.int .i64 x.N, .slice AL x.links.length cL, .slice AW x.weights.length cW, .slice AI x.ids.length cI, .bool x.ap, .bool x.back] 24 (0, 0)) := blk_alloc (blk_new rfl) _
  have bR : ((w.alloc (.cells #[.int .i64 x.N, .slice AL x.links.length cL, .slice AW x.weights.length cW, .slice AI x.ids.length cI, .bool x.ap, .bool x.back] 24)).alloc (.cells #[nilRow, nilRow] 27)).heap[w.heap.size + 1]? = some (.cells #[nilRow, nilRow] 27 (0, 0)) := blk_new (by simp)
  have hz : ((w.alloc (.cells #[.int .i64 x.N, .slice AL x.links.length cL, .slice AW x.weights.length cW, .slice AI x.ids.length cI, .bool x.ap, .bool x.back] 24)).alloc (.cells #[nilRow, nilRow] 27)).heap.size = w.heap.size + 2 := by simp
  generalize hW : (w.alloc _).alloc _ = W at HIN HB0 bX bR hz ⊢
  have cX0 := blk_cell (j := 0) (v := .int .i64 x.N) bX rfl
  have cX1 := blk_cell (j := 1) (v := .slice AL x.links.length cL) bX rfl
  have cX2 := blk_cell (j := 2) (v := .slice AW x.weights.length cW) bX rfl
  have cX3 := blk_cell (j := 3) (v := .slice AI x.ids.length cI) bX rfl
  have cX4 := blk_cell (j := 4) (v := .bool x.ap) bX rfl
  have cX5 := blk_cell (j := 5) (v := .bool x.back) bX rfl
  have HBX := Lib.hid bX
  have HBR := Lib.hid bR
  have HZ := Lib.hid hz
  clear hW hx bX bR hz
  have hzd : W.drew.heap.size = w.heap.size + 2 := HZ.out
  have HZD := Lib.hid hzd
  clear hzd
  go_region_held3 (fun w' => w'.cell? ⟨w.heap.size, 0, none⟩ = some (.int .i64 x.N) ∧ w'.cell? ⟨w.heap.size, 1, none⟩ = some (.slice AL x.links.length cL) ∧ w'.cell? ⟨w.heap.size, 2, none⟩ = some (.slice AW x.weights.length cW) ∧
      w'.cell? ⟨w.heap.size, 3, none⟩ = some (.slice AI x.ids.length cI) ∧ w'.cell? ⟨w.heap.size, 4, none⟩ = some (.bool x.ap) ∧ w'.cell? ⟨w.heap.size, 5, none⟩ = some (.bool x.back))
    (first | exact ⟨cX0, cX1, cX2, cX3, cX4, cX5⟩ | exact ⟨d0, d1, d2, d3, d4, d5⟩ | exact ⟨g0, g1, g2, g3, g4, g5⟩ | exact ⟨cell_far (cell_far g0 (by simp)) (by simp), cell_far (cell_far g1 (by simp)) (by simp), cell_far (cell_far g2 (by simp)) (by simp), cell_far (cell_far g3 (by simp)) (by simp), cell_far (cell_far g4 (by simp)) (by simp), cell_far (cell_far g5 (by simp)) (by simp)⟩)
    (first
      | (go_at_call 77
         refine (tree_n _ x AL AW AI cL cW cI HIN.out.drew most hm1 hm2).mono ?_
         rintro e w3 ⟨A3, c3, P3, vs3, rfl, ⟨hc3, hi3, hr3⟩, hown3, hpa3, hb3⟩
         have HC3 := Lib.hid hc3
         have HOWN := Lib.hid hown3
         have HPA := Lib.hid hpa3
         have HBB := Lib.hid hb3
         have hx3 := blk_below (w := W.drew) HBX.out hb3
         have HBX3 := Lib.hid hx3
         have d0 := blk_cell (j := 0) (v := .int .i64 x.N) hx3 rfl
         have d1 := blk_cell (j := 1) (v := .slice AL x.links.length cL) hx3 rfl
         have d2 := blk_cell (j := 2) (v := .slice AW x.weights.length cW) hx3 rfl
         have d3 := blk_cell (j := 3) (v := .slice AI x.ids.length cI) hx3 rfl
         have d4 := blk_cell (j := 4) (v := .bool x.ap) hx3 rfl
         have d5 := blk_cell (j := 5) (v := .bool x.back) hx3 rfl
         clear hc3 hi3 hr3 hown3 hpa3 hb3 hx3)
      | (go_at_call 68
         refine (more_calls W.drew w3 x AL AW AI cL cW cI HIN.out.drew HBB.out A3 _ c3 P3 _ vs3 _ HTG.out hn1 hn24 HPA.out).mono ?_
         rintro e w4 ⟨vs4, rfl, hpa4, hb4, hs4⟩
         have HPA4 := Lib.hid hpa4
         have HBB4 := Lib.hid (HBB.out.trans hb4)
         have HOWN4 := Lib.hid (own_spared HOWN.out hs4)
         have hx4 := hs4 _ _ _ HBX3.out (by decide) (by decide)
         have hr4 := hs4 _ _ _ (blk_below (w := W.drew) HBR.out HBB.out) (by decide) (by decide)
         have HR4 := Lib.hid hr4
         have g0 := blk_cell (j := 0) (v := .int .i64 x.N) hx4 rfl
         have g1 := blk_cell (j := 1) (v := .slice AL x.links.length cL) hx4 rfl
         have g2 := blk_cell (j := 2) (v := .slice AW x.weights.length cW) hx4 rfl
         have g3 := blk_cell (j := 3) (v := .slice AI x.ids.length cI) hx4 rfl
         have g4 := blk_cell (j := 4) (v := .bool x.ap) hx4 rfl
         have g5 := blk_cell (j := 5) (v := .bool x.back) hx4 rfl
         have r0 := blk_cell (j := 0) (v := nilRow) hr4 rfl
         have r1 := blk_cell (j := 1) (v := nilRow) hr4 rfl
         have fr0 := blk_free 0 hr4
         have fr1 := blk_free 1 hr4
         clear hpa4 hb4 hs4 hx4 hr4))
  go_wp2_with fail
  refine bodyPost_ret (v := .agg #[.slice A3 (x.n most) c3, .slice (some ⟨P3, 0, none⟩) (x.n most) (x.n most)]) (by simp [results, Try.results67, go_sem, r0, r1]) rfl ?_
  exact made_store (by rw [HZD.out]; omega) HIL.out HRL.out HC3.out HR4.out HOWN4.out HPA4.out ((below_drew HB0.out).trans (HBB4.out.mono (by rw [HZD.out]; omega)))
theorem conn_f (w : World) (x : Net) (hap : x.ap = false) (AL AW AI : Option Addr) (cL cW cI : Nat) (hx : x.In w AL AW AI) (most : Int) (hm1 : 1 ≤ most) (hm2 : most ≤ 24) :
    Calls Try.prog 67 #[.agg #[.int .i64 x.N, .slice AL x.links.length cL, .slice AW x.weights.length cW, .slice AI x.ids.length cI, .bool false, .bool x.back], .int .i64 most] w (fun e w' => MadeN w.heap.size (x.n most) (x.connG most) w w' e) := by
  have h := connected_calls w x AL AW AI cL cW cI hx most hm1 hm2
  rw [hap] at h
  exact h
theorem nodes_t (w : World) (x : Net) (hap : x.ap = true) (AL AW AI : Option Addr) (cL cW cI : Nat) (hx : x.In w AL AW AI) (most : Int) (hm1 : 1 ≤ most) (hm2 : most ≤ 100) :
    Calls Try.prog 69 #[.agg #[.int .i64 x.N, .slice AL x.links.length cL, .slice AW x.weights.length cW, .slice AI x.ids.length cI, .bool true, .bool x.back], .int .i64 most] w (fun e w' => MadeN w.heap.size (x.n most) ⟨nodeIds x.ids (x.n most), List.replicate (x.n most) []⟩ w w' e) := by
  have h := nodes_n w x AL AW AI cL cW cI hx most hm1 hm2
  rw [hap] at h
  exact h
theorem more_t (w0 w : World) (x : Net) (hap : x.ap = true) (AL AW AI : Option Addr) (cL cW cI : Nat) (hx : x.In w0 AL AW AI) (hbel : Below w0.heap.size w0 w) (A1 : Option Addr) (m c1 : Nat) (P n : Nat) (vs : List Value) (rows : List (List Link))
    (hg : Good n rows) (hn1 : 1 ≤ n) (hn2 : n ≤ 24) (hpa : PortsAt w w0.heap.size P vs rows) :
    Calls Try.prog 68 #[.agg #[.int .i64 x.N, .slice AL x.links.length cL, .slice AW x.weights.length cW, .slice AI x.ids.length cI, .bool true, .bool x.back], .agg #[.slice A1 m c1, .slice (some ⟨P, 0, none⟩) n n]] w
      (fun e w' => MorePost w0.heap.size P n (.slice A1 m c1) (moreRows x n rows) w w' e) := by
  have h := more_calls w0 w x AL AW AI cL cW cI hx hbel A1 m c1 P n vs rows hg hn1 hn2 hpa
  rw [hap] at h
  exact h
set_option maxHeartbeats 4000000 in
set_option maxRecDepth 100000 in
theorem any_f (w : World) (x : Net) (hap : x.ap = false) (AL AW AI : Option Addr) (cL cW cI : Nat) (hx : x.In w AL AW AI) (most : Int) (hm1 : 1 ≤ most) (hm2 : most ≤ 24) :
    Calls Try.prog 9 #[.agg #[.int .i64 x.N, .slice AL x.links.length cL, .slice AW x.weights.length cW, .slice AI x.ids.length cI, .bool false, .bool x.back], .int .i64 most] w (fun e w' => MadeN w.heap.size (x.n most) (x.connG most) w w' e) := by
  have HAP := Lib.hid hap
  clear hap
  go_enter Try.func9, Try.ntmps9
  go_wp2_with fail
  have HIN := Lib.hid ((hx.alloc (.cells #[.int .i64 x.N, .slice AL x.links.length cL, .slice AW x.weights.length cW, .slice AI x.ids.length cI, .bool false, .bool x.back] 24)).alloc (.cells #[nilRow, nilRow] 27))
  have HB0 := Lib.hid (((Below.refl w.heap.size w).alloc (Nat.le_refl _) (.cells #[.int .i64 x.N, .slice AL x.links.length cL, .slice AW x.weights.length cW, .slice AI x.ids.length cI, .bool false, .bool x.back] 24)).alloc (by simp) (.cells #[nilRow, nilRow] 27))
  have bX : ((w.alloc (.cells #[.int .i64 x.N, .slice AL x.links.length cL, .slice AW x.weights.length cW, .slice AI x.ids.length cI, .bool false, .bool x.back] 24)).alloc (.cells #[nilRow, nilRow] 27)).heap[w.heap.size]? = some (.cells #[.int .i64 x.N, .slice AL x.links.length cL, .slice AW x.weights.length cW, .slice AI x.ids.length cI, .bool false, .bool x.back] 24 (0, 0)) := blk_alloc (blk_new rfl) _
  have bR : ((w.alloc (.cells #[.int .i64 x.N, .slice AL x.links.length cL, .slice AW x.weights.length cW, .slice AI x.ids.length cI, .bool false, .bool x.back] 24)).alloc (.cells #[nilRow, nilRow] 27)).heap[w.heap.size + 1]? = some (.cells #[nilRow, nilRow] 27 (0, 0)) := blk_new (by simp)
  have hz : ((w.alloc (.cells #[.int .i64 x.N, .slice AL x.links.length cL, .slice AW x.weights.length cW, .slice AI x.ids.length cI, .bool false, .bool x.back] 24)).alloc (.cells #[nilRow, nilRow] 27)).heap.size = w.heap.size + 2 := by simp
  generalize hW : (w.alloc _).alloc _ = W at HIN HB0 bX bR hz ⊢
  have cX0 := blk_cell (j := 0) (v := .int .i64 x.N) bX rfl
  have cX1 := blk_cell (j := 1) (v := .slice AL x.links.length cL) bX rfl
  have cX2 := blk_cell (j := 2) (v := .slice AW x.weights.length cW) bX rfl
  have cX3 := blk_cell (j := 3) (v := .slice AI x.ids.length cI) bX rfl
  have cX4 := blk_cell (j := 4) (v := .bool false) bX rfl
  have cX5 := blk_cell (j := 5) (v := .bool x.back) bX rfl
  have HBX := Lib.hid bX
  have HBR := Lib.hid bR
  have HZ := Lib.hid hz
  clear hW hx bX bR hz
  go_wp2_with fail
  refine (conn_f _ x HAP.out AL AW AI cL cW cI HIN.out most hm1 hm2).mono ?_
  rintro e w4 ⟨A3, c3, P3, vs3, rfl, ⟨hc3, hi3, hr3⟩, hown3, hpa3, hb3⟩
  have hr4 := blk_below HBR.out hb3
  have r0 := blk_cell (j := 0) (v := nilRow) hr4 rfl
  have r1 := blk_cell (j := 1) (v := nilRow) hr4 rfl
  have fr0 := blk_free 0 hr4
  have fr1 := blk_free 1 hr4
  go_wp2_with fail
  refine bodyPost_ret (v := .agg #[.slice A3 (x.n most) c3, .slice (some ⟨P3, 0, none⟩) (x.n most) (x.n most)]) (by simp [results, Try.results9, go_sem, r0, r1]) rfl ?_
  exact made_store (by rw [HZ.out]; omega) hi3 hr3 hc3 hr4 hown3 hpa3 (HB0.out.trans (hb3.mono (by rw [HZ.out]; omega)))
set_option maxHeartbeats 4000000 in
set_option maxRecDepth 100000 in
theorem any_t (w : World) (x : Net) (hap : x.ap = true) (AL AW AI : Option Addr) (cL cW cI : Nat) (hx : x.In w AL AW AI) (most : Int) (hm1 : 1 ≤ most) (hm2 : most ≤ 24) :
    Calls Try.prog 9 #[.agg #[.int .i64 x.N, .slice AL x.links.length cL, .slice AW x.weights.length cW, .slice AI x.ids.length cI, .bool true, .bool x.back], .int .i64 most] w (fun e w' => MadeN w.heap.size (x.n most) (x.apartG most) w w' e) := by
  have hn := x.n_bd hm1
  have hn24 : x.n most ≤ 24 := by omega
  have hn1 := hn.1
  clear hn
  have hm3 : most ≤ 100 := by omega
  have hil : (x.apartG most).ids.length = x.n most := nodeIds_length _ _
  have hrl := (x.apart_g hm1).len
  have HTG := Lib.hid (good_none (x.n most))
  have HIL := Lib.hid hil
  have HRL := Lib.hid hrl
  clear hil hrl
  have HAP := Lib.hid hap
  clear hap
  go_enter Try.func9, Try.ntmps9
  go_wp2_with fail
  have HIN := Lib.hid ((hx.alloc (.cells #[.int .i64 x.N, .slice AL x.links.length cL, .slice AW x.weights.length cW, .slice AI x.ids.length cI, .bool true, .bool x.back] 24)).alloc (.cells #[nilRow, nilRow] 27))
  have HB0 := Lib.hid (((Below.refl w.heap.size w).alloc (Nat.le_refl _) (.cells #[.int .i64 x.N, .slice AL x.links.length cL, .slice AW x.weights.length cW, .slice AI x.ids.length cI, .bool true, .bool x.back] 24)).alloc (by simp) (.cells #[nilRow, nilRow] 27))
  have bX : ((w.alloc (.cells #[.int .i64 x.N, .slice AL x.links.length cL, .slice AW x.weights.length cW, .slice AI x.ids.length cI, .bool true, .bool x.back] 24)).alloc (.cells #[nilRow, nilRow] 27)).heap[w.heap.size]? = some (.cells #[.int .i64 x.N, .slice AL x.links.length cL, .slice AW x.weights.length cW, .slice AI x.ids.length cI, .bool true, .bool x.back] 24 (0, 0)) := blk_alloc (blk_new rfl) _
  have bR : ((w.alloc (.cells #[.int .i64 x.N, .slice AL x.links.length cL, .slice AW x.weights.length cW, .slice AI x.ids.length cI, .bool true, .bool x.back] 24)).alloc (.cells #[nilRow, nilRow] 27)).heap[w.heap.size + 1]? = some (.cells #[nilRow, nilRow] 27 (0, 0)) := blk_new (by simp)
  have hz : ((w.alloc (.cells #[.int .i64 x.N, .slice AL x.links.length cL, .slice AW x.weights.length cW, .slice AI x.ids.length cI, .bool true, .bool x.back] 24)).alloc (.cells #[nilRow, nilRow] 27)).heap.size = w.heap.size + 2 := by simp
  generalize hW : (w.alloc _).alloc _ = W at HIN HB0 bX bR hz ⊢
  have cX0 := blk_cell (j := 0) (v := .int .i64 x.N) bX rfl
  have cX1 := blk_cell (j := 1) (v := .slice AL x.links.length cL) bX rfl
  have cX2 := blk_cell (j := 2) (v := .slice AW x.weights.length cW) bX rfl
  have cX3 := blk_cell (j := 3) (v := .slice AI x.ids.length cI) bX rfl
  have cX4 := blk_cell (j := 4) (v := .bool true) bX rfl
  have cX5 := blk_cell (j := 5) (v := .bool x.back) bX rfl
  have HBX := Lib.hid bX
  have HBR := Lib.hid bR
  have HZ := Lib.hid hz
  clear hW hx bX bR hz
  go_wp2_with fail
  have hzd : W.drew.heap.size = w.heap.size + 2 := HZ.out
  have HZD := Lib.hid hzd
  clear hzd
  go_region_held3 (fun w' => w'.cell? ⟨w.heap.size, 0, none⟩ = some (.int .i64 x.N) ∧ w'.cell? ⟨w.heap.size, 1, none⟩ = some (.slice AL x.links.length cL) ∧ w'.cell? ⟨w.heap.size, 2, none⟩ = some (.slice AW x.weights.length cW) ∧
      w'.cell? ⟨w.heap.size, 3, none⟩ = some (.slice AI x.ids.length cI) ∧ w'.cell? ⟨w.heap.size, 4, none⟩ = some (.bool true) ∧ w'.cell? ⟨w.heap.size, 5, none⟩ = some (.bool x.back))
    (first | exact ⟨cX0, cX1, cX2, cX3, cX4, cX5⟩ | exact ⟨d0, d1, d2, d3, d4, d5⟩ | exact ⟨g0, g1, g2, g3, g4, g5⟩ | exact ⟨cell_far (cell_far g0 (by simp)) (by simp), cell_far (cell_far g1 (by simp)) (by simp), cell_far (cell_far g2 (by simp)) (by simp), cell_far (cell_far g3 (by simp)) (by simp), cell_far (cell_far g4 (by simp)) (by simp), cell_far (cell_far g5 (by simp)) (by simp)⟩)
    (first
      | (go_at_call 69
         refine (nodes_t _ x HAP.out AL AW AI cL cW cI HIN.out.drew most hm1 hm3).mono ?_
         rintro e w3 ⟨A3, c3, P3, vs3, rfl, ⟨hc3, hi3, hr3⟩, hown3, hpa3, hb3⟩
         have HC3 := Lib.hid hc3
         have HOWN := Lib.hid hown3
         have HPA := Lib.hid hpa3
         have HBB := Lib.hid hb3
         have hx3 := blk_below (w := W.drew) HBX.out hb3
         have HBX3 := Lib.hid hx3
         have d0 := blk_cell (j := 0) (v := .int .i64 x.N) hx3 rfl
         have d1 := blk_cell (j := 1) (v := .slice AL x.links.length cL) hx3 rfl
         have d2 := blk_cell (j := 2) (v := .slice AW x.weights.length cW) hx3 rfl
         have d3 := blk_cell (j := 3) (v := .slice AI x.ids.length cI) hx3 rfl
         have d4 := blk_cell (j := 4) (v := .bool true) hx3 rfl
         have d5 := blk_cell (j := 5) (v := .bool x.back) hx3 rfl
         clear hc3 hi3 hr3 hown3 hpa3 hb3 hx3)
      | (go_at_call 68
         refine (more_t W.drew w3 x HAP.out AL AW AI cL cW cI HIN.out.drew HBB.out A3 _ c3 P3 _ vs3 _ HTG.out hn1 hn24 HPA.out).mono ?_
         rintro e w4 ⟨vs4, rfl, hpa4, hb4, hs4⟩
         have HPA4 := Lib.hid hpa4
         have HBB4 := Lib.hid (HBB.out.trans hb4)
         have HOWN4 := Lib.hid (own_spared HOWN.out hs4)
         have hx4 := hs4 _ _ _ HBX3.out (by decide) (by decide)
         have hr4 := hs4 _ _ _ (blk_below (w := W.drew) HBR.out HBB.out) (by decide) (by decide)
         have HR4 := Lib.hid hr4
         have g0 := blk_cell (j := 0) (v := .int .i64 x.N) hx4 rfl
         have g1 := blk_cell (j := 1) (v := .slice AL x.links.length cL) hx4 rfl
         have g2 := blk_cell (j := 2) (v := .slice AW x.weights.length cW) hx4 rfl
         have g3 := blk_cell (j := 3) (v := .slice AI x.ids.length cI) hx4 rfl
         have g4 := blk_cell (j := 4) (v := .bool true) hx4 rfl
         have g5 := blk_cell (j := 5) (v := .bool x.back) hx4 rfl
         have r0 := blk_cell (j := 0) (v := nilRow) hr4 rfl
         have r1 := blk_cell (j := 1) (v := nilRow) hr4 rfl
         have fr0 := blk_free 0 hr4
         have fr1 := blk_free 1 hr4
         clear hpa4 hb4 hs4 hx4 hr4))
  go_wp2_with fail
  refine bodyPost_ret (v := .agg #[.slice A3 (x.n most) c3, .slice (some ⟨P3, 0, none⟩) (x.n most) (x.n most)]) (by simp [results, Try.results9, go_sem, r0, r1]) rfl ?_
  exact made_store (g := x.apartG most) (by rw [HZD.out]; omega) HIL.out HRL.out HC3.out HR4.out HOWN4.out HPA4.out ((below_drew HB0.out).trans (HBB4.out.mono (by rw [HZD.out]; omega)))
theorem any_calls (w : World) (x : Net) (AL AW AI : Option Addr) (cL cW cI : Nat) (hx : x.In w AL AW AI) (most : Int) (hm1 : 1 ≤ most) (hm2 : most ≤ 24) :
    Calls Try.prog 9 #[.agg #[.int .i64 x.N, .slice AL x.links.length cL, .slice AW x.weights.length cW, .slice AI x.ids.length cI, .bool x.ap, .bool x.back], .int .i64 most] w (fun e w' => MadeN w.heap.size (x.n most) (x.anyG most) w w' e) := by
  unfold Net.anyG
  cases hap : x.ap with
  | false => exact any_f w x hap AL AW AI cL cW cI hx most hm1 hm2
  | true => exact any_t w x hap AL AW AI cL cW cI hx most hm1 hm2
end Go.Proofs.Ythapikakneikbaa
