/-
  Lemmas and walks for this claim, part 3: Link, Good, Tree, More, Any, Config, Refs, RefLaw, RefValid, RefConf, ConfBridge, PConf, GEq1, GgraphValid, GindependentFit, GshapeHolds, GshapeWhere, GindependentMembers, NeighBridge, GgraphNeighbours, GindependentLegit, MadeBridge, GselfstabworldNetTree.
-/
import Derived.Deep.AppendLies
import Derived.Deep.RegionHeld3
import Derived.IntWalk
import Derived.Test.YthapikakneikbaaIJ2
/-
  selfstabworld.Net.link: a link is added to a graph that is being made. (Written by wip/gen/link.py.)
-/
namespace Go.Proofs.Ythapikakneikbaa
open Go.RowKit
set_option linter.unusedSimpArgs false
def addLink (back : Bool) (r : List Link) (l : Link) : List Link := if back then l :: r else r ++ [l]
/-- The ports when the link between ka and kb has been added, if there is none yet. -/
def linkRows (back : Bool) (rows : List (List Link)) (ka kb : Nat) (wt : Int) : List (List Link) :=
  if ka = kb ∨ linkedB rows ka kb = true then rows else (rows.set ka (addLink back (rows.getD ka []) ⟨kb, wt⟩)).set kb (addLink back (rows.getD kb []) ⟨ka, wt⟩)
def link.T6 : Bool × List (List Nat × List Nat) := (true, [([], []), ([0], [0]), ([], []), ([], []), ([3], [3]), ([], []), ([], []), ([6], [6]), ([], []), ([7, 8], [7, 8]), ([9], [9]), ([], []), ([11], [11]), ([10, 12], [10, 12]), ([], []), ([14], [14]), ([], []), ([15, 16], [15, 16]), ([17], [17]), ([], []), ([19], [19]), ([18, 20, 13], [18, 20]), ([1, 2, 0, 1, 2, 6, 7, 8, 9, 10, 11, 12, 13, 18, 21], [1, 2]), ([22, 13, 21, 0, 1, 2, 6, 7, 8, 9, 10, 11, 12, 13, 18, 21], [13, 22]), ([4, 5, 0, 1, 2, 3, 4, 5, 6, 7, 8, 9, 10, 11, 12, 13, 14, 15, 16, 17, 18, 19, 20, 21, 22, 23], [4, 5]), ([24, 21, 23, 0, 1, 2, 3, 4, 5, 6, 7, 8, 9, 10, 11, 12, 13, 14, 15, 16, 17, 18, 19, 20, 21, 22, 23], [21, 24])])
def link.B6 : List Nat := [0, 1, 0, 0, 8, 0, 0, 64, 0, 448, 960, 0, 2048, 8128, 0, 16384, 0, 114688, 245760, 0, 524288, 2097088, 4194247, 8388551, 16777215, 33554431]
theorem link.tab6 : rtab .any (opsOf Try.f115 6) = link.T6 := by kernel_rfl
theorem link.bits6 : waitsOk link.T6.2 link.B6 = true := by kernel_rfl
/-- What the walk has behind the call of 'linked' and the two links' variables. -/
structure LinkAt (W : World) (base P gz lz : Nat) (vs : List Value) (rows : List (List Link)) (ka kb : Nat) (wt : Int) : Prop where
  pa : PortsAt W base P vs rows
  e0 : W.cell? ⟨gz + 1, 1, none⟩ = some (.slice (some ⟨P, 0, none⟩) rows.length rows.length)
  e1 : W.cell? ⟨lz, 0, none⟩ = some (.int .i64 kb)
  e2 : W.cell? ⟨lz, 1, none⟩ = some (.int .i64 wt)
  e3 : W.cell? ⟨lz + 1, 0, none⟩ = some (.int .i64 ka)
  e4 : W.cell? ⟨lz + 1, 1, none⟩ = some (.int .i64 wt)
def LinkPost (base P : Nat) (rows' : List (List Link)) (w w' : World) (e : Ending) : Prop := e = .returned (.tuple #[]) ∧ (∃ vs', PortsAt w' base P vs' rows') ∧ Below base w w' ∧ Spared w w'
set_option maxHeartbeats 8000000 in
set_option maxRecDepth 100000 in
theorem link_calls (w : World) (N : Int) (vL vW vI : Value) (ap back : Bool) (v0 : Value) (base P : Nat) (vs : List Value) (rows : List (List Link)) (hp : PortsAt w base P vs rows) (hbase : base ≤ w.heap.size)
    (hn : rows.length ≤ 24) (hrl : ∀ r ∈ rows, r.length ≤ 1000) (ka kb : Nat) (ha : ka < rows.length) (hb : kb < rows.length) (wt : Int) :
    Calls Try.prog 115 #[.agg #[.int .i64 N, vL, vW, vI, .bool ap, .bool back], .agg #[v0, .slice (some ⟨P, 0, none⟩) rows.length rows.length], .int .i64 ka, .int .i64 kb, .int .i64 wt] w
      fun e w' => LinkPost base P (linkRows back rows ka kb wt) w w' e := by
  obtain ⟨i0, hi0, hz0, hz1, hz2⟩ := info_parts infoLink
  have HP := Lib.hid hp
  have HR := Lib.hid (hp.reads (by omega))
  have hPw := blk_lt hp.blk
  by_cases hab : ka = kb
  · have hE : Hid (linkRows back rows ka kb wt = rows) := by unfold Hid linkRows; rw [if_pos (.inl hab)]
    have t1 : ((ka : Int) == (kb : Int)) = true := by simp [hab]
    clear hab hp hrl
    go_enter Try.func115, Try.ntmps115
    go_wp2_with fail
    refine bodyPost_ret (v := .tuple #[]) (by simp [results, Try.results115, go_sem]) rfl ?_
    exact ⟨rfl, ⟨vs, by rw [hE.out]; exact (HP.out.alloc _).alloc _⟩, ((Below.refl _ _).alloc hbase _).alloc (by simp; omega) _, ((Spared.refl _).alloc _).alloc _⟩
  have t1 : ((ka : Int) == (kb : Int)) = false := by rw [beq_eq_false_iff_ne]; omega
  have hb0 := ((Below.refl w.heap.size w).alloc (Nat.le_refl _) (.cells #[.int .i64 N, vL, vW, vI, .bool ap, .bool back] 24)).alloc (by simp) (.cells #[v0, .slice (some ⟨P, 0, none⟩) rows.length rows.length] 27)
  have HR0 := Lib.hid (Kd.C_below HR.out hb0)
  have HB0 := Lib.hid hb0
  clear hb0
  cases hlk : linkedB rows ka kb with
  | true =>
    have hE : Hid (linkRows back rows ka kb wt = rows) := by unfold Hid linkRows; rw [if_pos (.inr hlk)]
    have HLK := Lib.hid hlk
    clear hlk hp hrl
    go_enter Try.func115, Try.ntmps115
    go_wp2_with fail
    refine (linked_calls _ _ _ _ _ HR0.out ka ha kb).mono ?_
    rintro e w1 ⟨rfl, hb1⟩
    rw [HLK.out]
    have HB1 := Lib.hid hb1
    clear hb1
    go_wp2_with fail
    refine bodyPost_ret (v := .tuple #[]) (by simp [results, Try.results115, go_sem]) rfl ?_
    exact ⟨rfl, ⟨vs, by rw [hE.out]; exact ((HP.out.alloc _).alloc _).below HB1.out⟩, (((Below.refl _ _).alloc hbase _).alloc (by simp; omega) _).trans (HB1.out.mono (by simp; omega)), (((Spared.refl _).alloc _).alloc _).below HB1.out⟩
  | false =>
    have HLK := Lib.hid hlk
    have hE : Hid (linkRows back rows ka kb wt = (rows.set ka (addLink back (rows.getD ka []) ⟨kb, wt⟩)).set kb (addLink back (rows.getD kb []) ⟨ka, wt⟩)) := by unfold Hid linkRows; rw [if_neg (by rintro (h | h); exact hab h; rw [h] at hlk; cases hlk)]
    have hvl : vs.length = rows.length := hp.rows.len
    obtain ⟨va, hva⟩ : ∃ va, vs[ka]? = some va := ⟨_, List.getElem?_eq_getElem (by omega)⟩
    obtain ⟨vb, hvb⟩ : ∃ vb, vs[kb]? = some vb := ⟨_, List.getElem?_eq_getElem (by omega)⟩
    obtain ⟨ra, hra⟩ : ∃ ra, rows[ka]? = some ra := ⟨_, List.getElem?_eq_getElem ha⟩
    obtain ⟨rb, hrb⟩ : ∃ rb, rows[kb]? = some rb := ⟨_, List.getElem?_eq_getElem hb⟩
    have HGa : Hid (rows.getD ka [] = ra) := by unfold Hid; simp [List.getD_eq_getElem?_getD, hra]
    have HGb : Hid (rows.getD kb [] = rb) := by unfold Hid; simp [List.getD_eq_getElem?_getD, hrb]
    have hla := hrl ra (List.mem_of_getElem? hra)
    have hlb := hrl rb (List.mem_of_getElem? hrb)
    have Ha := Lib.hid hva
    have HA := Lib.hid hva
    have Hb := Lib.hid hvb
    have HRa := Lib.hid hra
    have HRb := Lib.hid hrb
    have HLa := Lib.hid hla
    have HLb := Lib.hid hlb
    have Lta : Hid (∀ k, va.ownBlock = some k → k < w.heap.size) := own_lt (hp.rows.own ka va ra hva hra)
    have Ltb : Hid (∀ k, vb.ownBlock = some k → k < w.heap.size) := own_lt (hp.rows.own kb vb rb hvb hrb)
    have HBa : Hid (∀ k, va.ownBlock = some k → base ≤ k) := fun k hk => (own_typed (hp.rows.own ka va ra hva hra) k hk).1
    have HBb : Hid (∀ k, vb.ownBlock = some k → base ≤ k) := fun k hk => (own_typed (hp.rows.own kb vb rb hvb hrb) k hk).1
    have NPa : Hid (some P ≠ va.ownBlock) := fun e => hp.far va (List.mem_of_getElem? hva) e.symm
    have NPb : Hid (some P ≠ vb.ownBlock) := fun e => hp.far vb (List.mem_of_getElem? hvb) e.symm
    have hne1 : ka ≠ kb := hab
    have hne2 : kb ≠ ka := fun e => hab e.symm
    have haL : ka < vs.length := by omega
    have hbL : kb < vs.length := by omega
    have hPb := hp.hP
    have ha0 : (0 : Int) ≤ (ka : Int) := by omega
    have ha1 : (ka : Int) < (rows.length : Int) := by omega
    have hb0 : (0 : Int) ≤ (kb : Int) := by omega
    have hb1 : (kb : Int) < (rows.length : Int) := by omega
    clear hlk hp hrl hva hvb hra hrb hab hla hlb
    have KEY : Hid (∀ (lz : Nat) (W : World), LinkAt W base P w.heap.size lz vs rows ka kb wt → w.heap.size ≤ lz → lz + 2 = W.heap.size → True) := fun _ _ _ _ _ => trivial
    clear KEY
    cases back with
    | true =>
      go_enter Try.func115, Try.ntmps115
      go_wp2_with fail
      refine (linked_calls _ _ _ _ _ HR0.out ka ha kb).mono ?_
      rintro e w1 ⟨rfl, hb1⟩
      rw [HLK.out]
      have hzq := hb1.size
      simp only [World.size_alloc] at hzq
      have hcG := cell_b hb1 (cell_at_new (w := w.alloc (.cells #[.int .i64 N, vL, vW, vI, .bool ap, .bool true] 24)) (cs := #[v0, .slice (some ⟨P, 0, none⟩) rows.length rows.length]) (t := 27) (k := w.heap.size + 1) (j := 1) (by simp) rfl)
      have hcX := cell_b hb1 (cell_a (.cells #[v0, .slice (some ⟨P, 0, none⟩) rows.length rows.length] 27) (cell_at_new (w := w) (cs := #[.int .i64 N, vL, vW, vI, .bool ap, .bool true]) (t := 24) (k := w.heap.size) (j := 5) rfl rfl))
      have hPA := ((HP.out.alloc (.cells #[.int .i64 N, vL, vW, vI, .bool ap, .bool true] 24)).alloc (.cells #[v0, .slice (some ⟨P, 0, none⟩) rows.length rows.length] 27)).below hb1
      have HPA := Lib.hid hPA
      have HSF1 := Lib.hid ((((Spared.refl w).alloc (.cells #[.int .i64 N, vL, vW, vI, .bool ap, .bool true] 24)).alloc (.cells #[v0, .slice (some ⟨P, 0, none⟩) rows.length rows.length] 27)).below hb1)
      have HB1 := Lib.hid ((((Below.refl base w).alloc hbase _).alloc (by simp; omega) _).trans (hb1.mono (by simp; omega)))
      clear hb1 hPA HR0 HR HP HB0
      have hxw : w.heap.size < w1.heap.size := by omega
      go_wp2_with fail
      generalize hW : (w1.alloc _).alloc _ = W
      have cG : W.cell? ⟨w.heap.size + 1, 1, none⟩ = some (.slice (some ⟨P, 0, none⟩) rows.length rows.length) := by rw [← hW]; exact cell_a _ (cell_a _ hcG)
      have cL0 : W.cell? ⟨w1.heap.size, 0, none⟩ = some (.int .i64 kb) := by rw [← hW]; exact cell_a _ (cell_at_new rfl rfl)
      have cL1 : W.cell? ⟨w1.heap.size, 1, none⟩ = some (.int .i64 wt) := by rw [← hW]; exact cell_a _ (cell_at_new rfl rfl)
      have cM0 : W.cell? ⟨w1.heap.size + 1, 0, none⟩ = some (.int .i64 ka) := by rw [← hW]; exact cell_at_new (by simp) rfl
      have cM1 : W.cell? ⟨w1.heap.size + 1, 1, none⟩ = some (.int .i64 wt) := by rw [← hW]; exact cell_at_new (by simp) rfl
      have hPW0 : PortsAt W base P vs rows := by rw [← hW]; exact (HPA.out.alloc _).alloc _
      have blk0 := hPW0.blk
      have R0 := hPW0.rows.drew
      have hWz : W.heap.size = w1.heap.size + 2 := by rw [← hW]; simp
      have HBW : Hid (Below base w W) := by unfold Hid; rw [← hW]; exact (HB1.out.alloc (by omega) _).alloc (by simp; omega) _
      have HSFW : Hid (Spared w W) := by unfold Hid; rw [← hW]; exact (HSF1.out.alloc _).alloc _
      have hbW : base ≤ W.heap.size := by omega
      have hPW : P < W.heap.size := by omega
      have hPG : P ≠ w.heap.size + 1 := by omega
      have hPL : P ≠ w1.heap.size := by omega
      have hPM : P ≠ w1.heap.size + 1 := by omega
      have La : Hid (∀ k, va.ownBlock = some k → k < W.heap.size) := fun k hk => by have := Lta.out k hk; omega
      have Lb : Hid (∀ k, vb.ownBlock = some k → k < W.heap.size) := fun k hk => by have := Ltb.out k hk; omega
      clear hW hcG hcX
      have e0 := cG
      have e1 := cL0
      have e2 := cL1
      have e3 := cM0
      have e4 := cM1
      have e5 := port_cell blk0 HA.out
      have HR0 : Hid (Rows W base vs rows) := hPW0.rows
      have HB0 : Hid (W.heap[P]? = some (.cells vs.toArray 52 (0, 0))) := blk0
      have HWa := HA
      have HRWa := HRa
      have hGW : w.heap.size + 1 < W.heap.size := by omega
      have hLW : w1.heap.size < W.heap.size := by omega
      have hMW : w1.heap.size + 1 < W.heap.size := by omega
      clear cG cL0 cL1 cM0 cM1 blk0 R0 hPW0 hWz
      refine start_ (n := 13) (S := fun w' => w'.cell? ⟨w.heap.size + 1, 1, none⟩ = some (.slice (some ⟨P, 0, none⟩) rows.length rows.length) ∧ w'.cell? ⟨w1.heap.size, 0, none⟩ = some (.int .i64 kb) ∧ w'.cell? ⟨w1.heap.size, 1, none⟩ = some (.int .i64 wt) ∧ w'.cell? ⟨w1.heap.size + 1, 0, none⟩ = some (.int .i64 ka) ∧ w'.cell? ⟨w1.heap.size + 1, 1, none⟩ = some (.int .i64 wt) ∧ w'.cell? ⟨P, ka, none⟩ = some va) (ds := [12]) #[false, false, false, false, false, false, false, false, false, false, false, false, false] (by kernel_rfl) rfl rfl ⟨e0, e1, e2, e3, e4, e5⟩ (fun hHeld => ?_)
      refine pure_ (i := 0) (N := some 29) (v := ?_) (a' := ?_) #[true, false, false, false, false, false, false, false, false, false, false, false, false] rfl rfl (by kernel_rfl) (fun _ _ _ h => h) (Or.inl ⟨by rfl, ?_⟩) ?_ ?_
      rotate_left
      · intro w'
        go_simp
        with_reducible rfl
      rotate_left
      · simp only [Act.put, List.setIfInBounds_toArray, List.set_cons_zero, List.set_cons_succ, i64_w, i32_w]
        rfl
      refine pure_ (i := 2) (N := some 31) (v := ?_) (a' := ?_) #[true, false, true, false, false, false, false, false, false, false, false, false, false] rfl rfl (by kernel_rfl) (fun _ _ _ h => h) (Or.inl ⟨by rfl, ?_⟩) ?_ ?_
      rotate_left
      · intro w'
        go_simp
        with_reducible rfl
      rotate_left
      · simp only [Act.put, List.setIfInBounds_toArray, List.set_cons_zero, List.set_cons_succ, i64_w, i32_w]
        rfl
      refine pure_ (i := 5) (N := some 34) (v := ?_) (a' := ?_) #[true, false, true, false, false, true, false, false, false, false, false, false, false] rfl rfl (by kernel_rfl) (fun _ _ _ h => h) (Or.inl ⟨by rfl, ?_⟩) ?_ ?_
      rotate_left
      · intro w'
        go_simp
        with_reducible rfl
      rotate_left
      · simp only [Act.put, List.setIfInBounds_toArray, List.set_cons_zero, List.set_cons_succ, i64_w, i32_w]
        rfl
      refine pure_ (i := 7) (N := some 36) (v := ?_) (a' := ?_) #[true, false, true, false, false, true, false, true, false, false, false, false, false] rfl rfl (by kernel_rfl) (fun _ _ _ h => h) (Or.inl ⟨by rfl, ?_⟩) ?_ ?_
      rotate_left
      · intro w'
        go_simp
        with_reducible rfl
      rotate_left
      · simp only [Act.put, List.setIfInBounds_toArray, List.set_cons_zero, List.set_cons_succ, i64_w, i32_w]
        rfl
      refine take_ (i := 1) (N := some 30) (v := ?_) (a' := ?_) #[true, true, true, false, false, true, false, true, false, false, false, false, false] rfl rfl (by kernel_rfl) (fun _ _ _ h => h) (Or.inl ⟨by rfl, ?_⟩) hHeld ?_ ?_
      rotate_left
      · rintro w' ⟨s0, s1, s2, s3, s4, s5⟩
        go_simp
        with_reducible rfl
      rotate_left
      · simp only [Act.put, List.setIfInBounds_toArray, List.set_cons_zero, List.set_cons_succ, i64_w, i32_w]
        rfl
      refine take_ (i := 3) (N := some 32) (v := ?_) (a' := ?_) #[true, true, true, true, false, true, false, true, false, false, false, false, false] rfl rfl (by kernel_rfl) (fun _ _ _ h => h) (Or.inl ⟨by rfl, ?_⟩) hHeld ?_ ?_
      rotate_left
      · rintro w' ⟨s0, s1, s2, s3, s4, s5⟩
        go_simp
        with_reducible rfl
      rotate_left
      · simp only [Act.put, List.setIfInBounds_toArray, List.set_cons_zero, List.set_cons_succ, i64_w, i32_w]
        rfl
      refine take_ (i := 6) (N := some 35) (v := ?_) (a' := ?_) #[true, true, true, true, false, true, true, true, false, false, false, false, false] rfl rfl (by kernel_rfl) (fun _ _ _ h => h) (Or.inl ⟨by rfl, ?_⟩) hHeld ?_ ?_
      rotate_left
      · rintro w' ⟨s0, s1, s2, s3, s4, s5⟩
        go_simp
        with_reducible rfl
      rotate_left
      · simp only [Act.put, List.setIfInBounds_toArray, List.set_cons_zero, List.set_cons_succ, i64_w, i32_w]
        rfl
      refine pure_ (i := 8) (N := some 37) (v := ?_) (a' := ?_) #[true, true, true, true, false, true, true, true, true, false, false, false, false] rfl rfl (by kernel_rfl) (fun _ _ _ h => h) (Or.inl ⟨by rfl, ?_⟩) ?_ ?_
      rotate_left
      · intro w'
        go_simp
        with_reducible rfl
      rotate_left
      · simp only [Act.put, List.setIfInBounds_toArray, List.set_cons_zero, List.set_cons_succ, i64_w, i32_w]
        rfl
      refine take_ (i := 9) (N := some 38) (v := ?_) (a' := ?_) #[true, true, true, true, false, true, true, true, true, true, false, false, false] rfl rfl (by kernel_rfl) (fun _ _ _ h => h) (Or.inl ⟨by rfl, ?_⟩) hHeld ?_ ?_
      rotate_left
      · rintro w' ⟨s0, s1, s2, s3, s4, s5⟩
        go_simp
        with_reducible rfl
      rotate_left
      · simp only [Act.put, List.setIfInBounds_toArray, List.set_cons_zero, List.set_cons_succ, i64_w, i32_w]
        rfl
      refine one_ (i := 4) (N := some 33) #[true, true, true, true, true, true, true, true, true, true, false, false, false] rfl rfl (by kernel_rfl) (by decide) (fun K hK => ?_)
      refine value_ (w1 := ?_) (v := ?_) (by rfl) rfl ?_ ?_
      rotate_left 2
      · go_simp
        constructor
        · rfl
        · rfl
      refine hK.out _ _ ⟨cell_a _ hHeld.1, cell_a _ hHeld.2.1, cell_a _ hHeld.2.2.1, cell_a _ hHeld.2.2.2.1, cell_a _ hHeld.2.2.2.2.1, cell_a _ hHeld.2.2.2.2.2⟩ (fun hHeld => ?_)
      clear hK K
      refine norm_ (a' := ?_) ?_ ?_
      rotate_left
      · show Act.put _ (some 33) _ = _
        simp only [Act.put, List.setIfInBounds_toArray, List.set_cons_zero, List.set_cons_succ, i64_w, i32_w]
        rfl
      refine one_ (i := 10) (N := some 39) #[true, true, true, true, true, true, true, true, true, true, true, false, false] rfl rfl (by kernel_rfl) (by decide) (fun K hK => ?_)
      refine step_append_row (by rfl) (.tmp 33) (.tmp 38) _ (by rfl) base 60 i0 _ 2 16 Try.underlying52 hi0 hz0 hz1 hz2 rfl (by omega) (.slice (some ⟨W.heap.size, 0, none⟩) 1 1) 1 (lcells [⟨kb, wt⟩]) (by rfl) (own_fresh (l := ⟨kb, wt⟩) (heap_alloc_new W.drew _) hbW) (by omega) va ra.length (lcells ra) (by rfl) ((HR0.out.drew.alloc _).own ka va ra HWa.out HRWa.out) (HR0.out.nil ka va ra HWa.out HRWa.out) (lcells_oneCell _) (by have := HLa.out; unfold maxLen; omega) (by have := HLa.out; omega) (by simp; omega) ?_
      intro g1 capg1 w2 hown1 hgrow1 hat1 hlt1
      have HGw2 : Hid (W.grownBy w2 va.ownBlock) := ⟨hgrow1.os, hgrow1.tape, hgrow1.output, Nat.le_trans (by simp) hgrow1.size, fun q hq _ => (hgrow1.block q (by simp; omega) (by simp [Value.ownBlock]; omega)).trans (Below.heap_alloc _ _ _ hq)⟩
      have HRw2 : Hid (Rows w2 base (vs.set ka (.slice (some ⟨g1, 0, none⟩) (1 + ra.length) capg1 : Value)) (rows.set ka ((⟨kb, wt⟩ : Link) :: ra))) := HR0.out.upd HWa.out HGw2.out (by show World.ownsRow _ _ _ _ _ (ra.length + 1) _; rw [show ra.length + 1 = 1 + ra.length from Nat.add_comm _ _]; exact hown1) (by simp) (.inr (.inr ⟨g1, rfl, by rcases hat1 with h | h <;> simp [Value.ownBlock] at h <;> omega⟩))
      have HPw2 : Hid (w2.heap[P]? = some (.cells vs.toArray 52 (0, 0))) := (HGw2.out.block P hPW NPa.out).trans HB0.out
      have HBBw2 : Hid (Below base W w2) := ((Below.refl base W).alloc (by omega) _).drew.grown hgrow1 (Nat.le_trans hbW (by simp)) (by intro q hq; simp [Value.ownBlock] at hq; omega)
      have HSFw2 : Hid (Spared W w2) := ((Spared.refl W).alloc _).drew.grown hgrow1 (fun k hk => ⟨_, (show W.heap.size = k by simpa [Value.ownBlock] using hk) ▸ heap_alloc_new _ _⟩)
      have hsw2 : W.heap.size < w2.heap.size := Nat.lt_of_lt_of_le (by simp) hgrow1.size
      have k0w2 := blk_free ka HPw2.out
      have k1w2 := port_cell HPw2.out HWa.out
      refine hK.out _ _ ⟨hgrow1.cell hHeld.1 (by simp [Value.ownBlock]; omega), hgrow1.cell hHeld.2.1 (by simp [Value.ownBlock]; omega), hgrow1.cell hHeld.2.2.1 (by simp [Value.ownBlock]; omega), hgrow1.cell hHeld.2.2.2.1 (by simp [Value.ownBlock]; omega), hgrow1.cell hHeld.2.2.2.2.1 (by simp [Value.ownBlock]; omega), hgrow1.cell hHeld.2.2.2.2.2 (by simp [Value.ownBlock]; omega)⟩ (fun hHeld => ?_)
      clear hK K
      refine norm_ (a' := ?_) ?_ ?_
      rotate_left
      · show Act.put _ (some 39) _ = _
        simp only [Act.put, List.setIfInBounds_toArray, List.set_cons_zero, List.set_cons_succ, i64_w, i32_w]
        rfl
      refine pure_ (i := 11) (N := some 40) (v := ?_) (a' := ?_) #[true, true, true, true, true, true, true, true, true, true, true, true, false] rfl rfl (by kernel_rfl) (fun _ _ _ h => h) (Or.inl ⟨by rfl, ?_⟩) ?_ ?_
      rotate_left
      · intro w'
        go_simp
        with_reducible rfl
      rotate_left
      · simp only [Act.put, List.setIfInBounds_toArray, List.set_cons_zero, List.set_cons_succ, i64_w, i32_w]
        rfl
      refine last_ (i := 12) (N := none) #[true, true, true, true, true, true, true, true, true, true, true, true, true] rfl rfl (by kernel_rfl) (by decide) (fun K hK => ?_)
      refine skip_ (w1 := ?_) (by rfl) rfl ?_ ?_
      rotate_left
      · go_simp
        rfl
      refine hK.out _ _ ?_
      clear hK K
      refine done_ (by kernel_rfl) ?_
      obtain ⟨vsA, hvsA⟩ : ∃ vsA, vs.set ka (.slice (some ⟨g1, 0, none⟩) (1 + ra.length) capg1) = vsA := ⟨_, rfl⟩
      obtain ⟨rowsA, hrowsA⟩ : ∃ rowsA, rows.set ka ((⟨kb, wt⟩ : Link) :: ra) = rowsA := ⟨_, rfl⟩
      have HVS := Lib.hid hvsA
      have HRS := Lib.hid hrowsA
      generalize hW3 : w2.setCell _ _ = W3
      have f0 : W3.cell? ⟨w.heap.size + 1, 1, none⟩ = some (.slice (some ⟨P, 0, none⟩) rows.length rows.length) := by rw [← hW3]; exact cell_far hHeld.1 (by simp; omega)
      have f1 : W3.cell? ⟨w1.heap.size, 0, none⟩ = some (.int .i64 kb) := by rw [← hW3]; exact cell_far hHeld.2.1 (by simp; omega)
      have f2 : W3.cell? ⟨w1.heap.size, 1, none⟩ = some (.int .i64 wt) := by rw [← hW3]; exact cell_far hHeld.2.2.1 (by simp; omega)
      have f3 : W3.cell? ⟨w1.heap.size + 1, 0, none⟩ = some (.int .i64 ka) := by rw [← hW3]; exact cell_far hHeld.2.2.2.1 (by simp; omega)
      have f4 : W3.cell? ⟨w1.heap.size + 1, 1, none⟩ = some (.int .i64 wt) := by rw [← hW3]; exact cell_far hHeld.2.2.2.2.1 (by simp; omega)
      have HB3 : Hid (W3.heap[P]? = some (.cells vsA.toArray 52 (0, 0))) := by unfold Hid; rw [← hW3, ← hvsA]; exact port_set HPw2.out haL
      have HR3 : Hid (Rows W3 base vsA rowsA) := by unfold Hid; rw [← hW3, ← hvsA, ← hrowsA]; exact HRw2.out.store HPw2.out
      have hz3 : W3.heap.size = w2.heap.size := by rw [← hW3]; simp [World.setCell]
      have HBB3 : Hid (Below base W W3) := by unfold Hid; rw [← hW3]; exact HBBw2.out.setCell hPb _
      have HSF3 : Hid (Spared W W3) := by unfold Hid; rw [← hW3]; exact HSFw2.out.set HPw2.out
      have HW3b : Hid (vsA[kb]? = some vb) := by unfold Hid; rw [← hvsA, List.getElem?_set_ne hne1]; exact Hb.out
      have HRW3b : Hid (rowsA[kb]? = some rb) := by unfold Hid; rw [← hrowsA, List.getElem?_set_ne hne1]; exact HRb.out
      have f5 := port_cell HB3.out HW3b.out
      have hbW3 : base ≤ W3.heap.size := by omega
      have hPW3 : P < W3.heap.size := by omega
      have hGW3 : w.heap.size + 1 < W3.heap.size := by omega
      have hLW3 : w1.heap.size < W3.heap.size := by omega
      have hMW3 : w1.heap.size + 1 < W3.heap.size := by omega
      have hbA : kb < vsA.length := by rw [← hvsA]; simpa using hbL
      clear hW3 hHeld hvsA hrowsA k0w2 k1w2 e0 e1 e2 e3 e4 e5 hz3
      go_wp2_with fail
      refine start_ (n := 13) (S := fun w' => w'.cell? ⟨w.heap.size + 1, 1, none⟩ = some (.slice (some ⟨P, 0, none⟩) rows.length rows.length) ∧ w'.cell? ⟨w1.heap.size, 0, none⟩ = some (.int .i64 kb) ∧ w'.cell? ⟨w1.heap.size, 1, none⟩ = some (.int .i64 wt) ∧ w'.cell? ⟨w1.heap.size + 1, 0, none⟩ = some (.int .i64 ka) ∧ w'.cell? ⟨w1.heap.size + 1, 1, none⟩ = some (.int .i64 wt) ∧ w'.cell? ⟨P, kb, none⟩ = some vb) (ds := [12]) #[false, false, false, false, false, false, false, false, false, false, false, false, false] (by kernel_rfl) rfl rfl ⟨f0, f1, f2, f3, f4, f5⟩ (fun hHeld => ?_)
      refine pure_ (i := 0) (N := some 41) (v := ?_) (a' := ?_) #[true, false, false, false, false, false, false, false, false, false, false, false, false] rfl rfl (by kernel_rfl) (fun _ _ _ h => h) (Or.inl ⟨by rfl, ?_⟩) ?_ ?_
      rotate_left
      · intro w'
        go_simp
        with_reducible rfl
      rotate_left
      · simp only [Act.put, List.setIfInBounds_toArray, List.set_cons_zero, List.set_cons_succ, i64_w, i32_w]
        rfl
      refine pure_ (i := 2) (N := some 43) (v := ?_) (a' := ?_) #[true, false, true, false, false, false, false, false, false, false, false, false, false] rfl rfl (by kernel_rfl) (fun _ _ _ h => h) (Or.inl ⟨by rfl, ?_⟩) ?_ ?_
      rotate_left
      · intro w'
        go_simp
        with_reducible rfl
      rotate_left
      · simp only [Act.put, List.setIfInBounds_toArray, List.set_cons_zero, List.set_cons_succ, i64_w, i32_w]
        rfl
      refine pure_ (i := 5) (N := some 46) (v := ?_) (a' := ?_) #[true, false, true, false, false, true, false, false, false, false, false, false, false] rfl rfl (by kernel_rfl) (fun _ _ _ h => h) (Or.inl ⟨by rfl, ?_⟩) ?_ ?_
      rotate_left
      · intro w'
        go_simp
        with_reducible rfl
      rotate_left
      · simp only [Act.put, List.setIfInBounds_toArray, List.set_cons_zero, List.set_cons_succ, i64_w, i32_w]
        rfl
      refine pure_ (i := 7) (N := some 48) (v := ?_) (a' := ?_) #[true, false, true, false, false, true, false, true, false, false, false, false, false] rfl rfl (by kernel_rfl) (fun _ _ _ h => h) (Or.inl ⟨by rfl, ?_⟩) ?_ ?_
      rotate_left
      · intro w'
        go_simp
        with_reducible rfl
      rotate_left
      · simp only [Act.put, List.setIfInBounds_toArray, List.set_cons_zero, List.set_cons_succ, i64_w, i32_w]
        rfl
      refine take_ (i := 1) (N := some 42) (v := ?_) (a' := ?_) #[true, true, true, false, false, true, false, true, false, false, false, false, false] rfl rfl (by kernel_rfl) (fun _ _ _ h => h) (Or.inl ⟨by rfl, ?_⟩) hHeld ?_ ?_
      rotate_left
      · rintro w' ⟨s0, s1, s2, s3, s4, s5⟩
        go_simp
        with_reducible rfl
      rotate_left
      · simp only [Act.put, List.setIfInBounds_toArray, List.set_cons_zero, List.set_cons_succ, i64_w, i32_w]
        rfl
      refine take_ (i := 3) (N := some 44) (v := ?_) (a' := ?_) #[true, true, true, true, false, true, false, true, false, false, false, false, false] rfl rfl (by kernel_rfl) (fun _ _ _ h => h) (Or.inl ⟨by rfl, ?_⟩) hHeld ?_ ?_
      rotate_left
      · rintro w' ⟨s0, s1, s2, s3, s4, s5⟩
        go_simp
        with_reducible rfl
      rotate_left
      · simp only [Act.put, List.setIfInBounds_toArray, List.set_cons_zero, List.set_cons_succ, i64_w, i32_w]
        rfl
      refine take_ (i := 6) (N := some 47) (v := ?_) (a' := ?_) #[true, true, true, true, false, true, true, true, false, false, false, false, false] rfl rfl (by kernel_rfl) (fun _ _ _ h => h) (Or.inl ⟨by rfl, ?_⟩) hHeld ?_ ?_
      rotate_left
      · rintro w' ⟨s0, s1, s2, s3, s4, s5⟩
        go_simp
        with_reducible rfl
      rotate_left
      · simp only [Act.put, List.setIfInBounds_toArray, List.set_cons_zero, List.set_cons_succ, i64_w, i32_w]
        rfl
      refine pure_ (i := 8) (N := some 49) (v := ?_) (a' := ?_) #[true, true, true, true, false, true, true, true, true, false, false, false, false] rfl rfl (by kernel_rfl) (fun _ _ _ h => h) (Or.inl ⟨by rfl, ?_⟩) ?_ ?_
      rotate_left
      · intro w'
        go_simp
        with_reducible rfl
      rotate_left
      · simp only [Act.put, List.setIfInBounds_toArray, List.set_cons_zero, List.set_cons_succ, i64_w, i32_w]
        rfl
      refine take_ (i := 9) (N := some 50) (v := ?_) (a' := ?_) #[true, true, true, true, false, true, true, true, true, true, false, false, false] rfl rfl (by kernel_rfl) (fun _ _ _ h => h) (Or.inl ⟨by rfl, ?_⟩) hHeld ?_ ?_
      rotate_left
      · rintro w' ⟨s0, s1, s2, s3, s4, s5⟩
        go_simp
        with_reducible rfl
      rotate_left
      · simp only [Act.put, List.setIfInBounds_toArray, List.set_cons_zero, List.set_cons_succ, i64_w, i32_w]
        rfl
      refine one_ (i := 4) (N := some 45) #[true, true, true, true, true, true, true, true, true, true, false, false, false] rfl rfl (by kernel_rfl) (by decide) (fun K hK => ?_)
      refine value_ (w1 := ?_) (v := ?_) (by rfl) rfl ?_ ?_
      rotate_left 2
      · go_simp
        constructor
        · rfl
        · rfl
      refine hK.out _ _ ⟨cell_a _ hHeld.1, cell_a _ hHeld.2.1, cell_a _ hHeld.2.2.1, cell_a _ hHeld.2.2.2.1, cell_a _ hHeld.2.2.2.2.1, cell_a _ hHeld.2.2.2.2.2⟩ (fun hHeld => ?_)
      clear hK K
      refine norm_ (a' := ?_) ?_ ?_
      rotate_left
      · show Act.put _ (some 45) _ = _
        simp only [Act.put, List.setIfInBounds_toArray, List.set_cons_zero, List.set_cons_succ, i64_w, i32_w]
        rfl
      refine one_ (i := 10) (N := some 51) #[true, true, true, true, true, true, true, true, true, true, true, false, false] rfl rfl (by kernel_rfl) (by decide) (fun K hK => ?_)
      refine step_append_row (by rfl) (.tmp 45) (.tmp 50) _ (by rfl) base 60 i0 _ 2 16 Try.underlying52 hi0 hz0 hz1 hz2 rfl (by omega) (.slice (some ⟨W3.heap.size, 0, none⟩) 1 1) 1 (lcells [⟨ka, wt⟩]) (by rfl) (own_fresh (l := ⟨ka, wt⟩) (heap_alloc_new W3.drew _) hbW3) (by omega) vb rb.length (lcells rb) (by rfl) ((HR3.out.drew.alloc _).own kb vb rb HW3b.out HRW3b.out) (HR3.out.nil kb vb rb HW3b.out HRW3b.out) (lcells_oneCell _) (by have := HLb.out; unfold maxLen; omega) (by have := HLb.out; omega) (by simp; omega) ?_
      intro g2 capg2 w4 hown1 hgrow1 hat1 hlt1
      have HGw4 : Hid (W3.grownBy w4 vb.ownBlock) := ⟨hgrow1.os, hgrow1.tape, hgrow1.output, Nat.le_trans (by simp) hgrow1.size, fun q hq _ => (hgrow1.block q (by simp; omega) (by simp [Value.ownBlock]; omega)).trans (Below.heap_alloc _ _ _ hq)⟩
      have HRw4 : Hid (Rows w4 base (vsA.set kb (.slice (some ⟨g2, 0, none⟩) (1 + rb.length) capg2 : Value)) (rowsA.set kb ((⟨ka, wt⟩ : Link) :: rb))) := HR3.out.upd HW3b.out HGw4.out (by show World.ownsRow _ _ _ _ _ (rb.length + 1) _; rw [show rb.length + 1 = 1 + rb.length from Nat.add_comm _ _]; exact hown1) (by simp) (.inr (.inr ⟨g2, rfl, by rcases hat1 with h | h <;> simp [Value.ownBlock] at h <;> omega⟩))
      have HPw4 : Hid (w4.heap[P]? = some (.cells vsA.toArray 52 (0, 0))) := (HGw4.out.block P hPW3 NPb.out).trans HB3.out
      have HBBw4 : Hid (Below base W3 w4) := ((Below.refl base W3).alloc (by omega) _).drew.grown hgrow1 (Nat.le_trans hbW3 (by simp)) (by intro q hq; simp [Value.ownBlock] at hq; omega)
      have HSFw4 : Hid (Spared W3 w4) := ((Spared.refl W3).alloc _).drew.grown hgrow1 (fun k hk => ⟨_, (show W3.heap.size = k by simpa [Value.ownBlock] using hk) ▸ heap_alloc_new _ _⟩)
      have hsw4 : W3.heap.size < w4.heap.size := Nat.lt_of_lt_of_le (by simp) hgrow1.size
      have k0w4 := blk_free kb HPw4.out
      have k1w4 := port_cell HPw4.out HW3b.out
      refine hK.out _ _ ⟨hgrow1.cell hHeld.1 (by simp [Value.ownBlock]; omega), hgrow1.cell hHeld.2.1 (by simp [Value.ownBlock]; omega), hgrow1.cell hHeld.2.2.1 (by simp [Value.ownBlock]; omega), hgrow1.cell hHeld.2.2.2.1 (by simp [Value.ownBlock]; omega), hgrow1.cell hHeld.2.2.2.2.1 (by simp [Value.ownBlock]; omega), hgrow1.cell hHeld.2.2.2.2.2 (by simp [Value.ownBlock]; omega)⟩ (fun hHeld => ?_)
      clear hK K
      refine norm_ (a' := ?_) ?_ ?_
      rotate_left
      · show Act.put _ (some 51) _ = _
        simp only [Act.put, List.setIfInBounds_toArray, List.set_cons_zero, List.set_cons_succ, i64_w, i32_w]
        rfl
      refine pure_ (i := 11) (N := some 52) (v := ?_) (a' := ?_) #[true, true, true, true, true, true, true, true, true, true, true, true, false] rfl rfl (by kernel_rfl) (fun _ _ _ h => h) (Or.inl ⟨by rfl, ?_⟩) ?_ ?_
      rotate_left
      · intro w'
        go_simp
        with_reducible rfl
      rotate_left
      · simp only [Act.put, List.setIfInBounds_toArray, List.set_cons_zero, List.set_cons_succ, i64_w, i32_w]
        rfl
      refine last_ (i := 12) (N := none) #[true, true, true, true, true, true, true, true, true, true, true, true, true] rfl rfl (by kernel_rfl) (by decide) (fun K hK => ?_)
      refine skip_ (w1 := ?_) (by rfl) rfl ?_ ?_
      rotate_left
      · go_simp
        rfl
      refine hK.out _ _ ?_
      clear hK K
      refine done_ (by kernel_rfl) ?_
      go_wp2_with fail
      refine bodyPost_ret (v := .tuple #[]) (by simp [results, Try.results115, go_sem]) rfl ?_
      refine ⟨rfl, ⟨_, ⟨port_set HPw4.out hbA, ?_, hPb⟩⟩, (HBW.out.trans HBB3.out).trans (HBBw4.out.setCell hPb _), (HSFW.out.trans HSF3.out).trans (HSFw4.out.set HPw4.out)⟩
      rw [hE.out, HGa.out, HGb.out]
      show Rows _ base _ ((rows.set ka ((⟨kb, wt⟩ : Link) :: ra)).set kb ((⟨ka, wt⟩ : Link) :: rb))
      rw [HRS.out]
      exact HRw4.out.store HPw4.out
    | false =>
      go_enter Try.func115, Try.ntmps115
      go_wp2_with fail
      refine (linked_calls _ _ _ _ _ HR0.out ka ha kb).mono ?_
      rintro e w1 ⟨rfl, hb1⟩
      rw [HLK.out]
      have hzq := hb1.size
      simp only [World.size_alloc] at hzq
      have hcG := cell_b hb1 (cell_at_new (w := w.alloc (.cells #[.int .i64 N, vL, vW, vI, .bool ap, .bool false] 24)) (cs := #[v0, .slice (some ⟨P, 0, none⟩) rows.length rows.length]) (t := 27) (k := w.heap.size + 1) (j := 1) (by simp) rfl)
      have hcX := cell_b hb1 (cell_a (.cells #[v0, .slice (some ⟨P, 0, none⟩) rows.length rows.length] 27) (cell_at_new (w := w) (cs := #[.int .i64 N, vL, vW, vI, .bool ap, .bool false]) (t := 24) (k := w.heap.size) (j := 5) rfl rfl))
      have hPA := ((HP.out.alloc (.cells #[.int .i64 N, vL, vW, vI, .bool ap, .bool false] 24)).alloc (.cells #[v0, .slice (some ⟨P, 0, none⟩) rows.length rows.length] 27)).below hb1
      have HPA := Lib.hid hPA
      have HSF1 := Lib.hid ((((Spared.refl w).alloc (.cells #[.int .i64 N, vL, vW, vI, .bool ap, .bool false] 24)).alloc (.cells #[v0, .slice (some ⟨P, 0, none⟩) rows.length rows.length] 27)).below hb1)
      have HB1 := Lib.hid ((((Below.refl base w).alloc hbase _).alloc (by simp; omega) _).trans (hb1.mono (by simp; omega)))
      clear hb1 hPA HR0 HR HP HB0
      have hxw : w.heap.size < w1.heap.size := by omega
      go_wp2_with fail
      generalize hW : (w1.alloc _).alloc _ = W
      have cG : W.cell? ⟨w.heap.size + 1, 1, none⟩ = some (.slice (some ⟨P, 0, none⟩) rows.length rows.length) := by rw [← hW]; exact cell_a _ (cell_a _ hcG)
      have cL0 : W.cell? ⟨w1.heap.size, 0, none⟩ = some (.int .i64 kb) := by rw [← hW]; exact cell_a _ (cell_at_new rfl rfl)
      have cL1 : W.cell? ⟨w1.heap.size, 1, none⟩ = some (.int .i64 wt) := by rw [← hW]; exact cell_a _ (cell_at_new rfl rfl)
      have cM0 : W.cell? ⟨w1.heap.size + 1, 0, none⟩ = some (.int .i64 ka) := by rw [← hW]; exact cell_at_new (by simp) rfl
      have cM1 : W.cell? ⟨w1.heap.size + 1, 1, none⟩ = some (.int .i64 wt) := by rw [← hW]; exact cell_at_new (by simp) rfl
      have hPW0 : PortsAt W base P vs rows := by rw [← hW]; exact (HPA.out.alloc _).alloc _
      have blk0 := hPW0.blk
      have R0 := hPW0.rows.drew
      have hWz : W.heap.size = w1.heap.size + 2 := by rw [← hW]; simp
      have HBW : Hid (Below base w W) := by unfold Hid; rw [← hW]; exact (HB1.out.alloc (by omega) _).alloc (by simp; omega) _
      have HSFW : Hid (Spared w W) := by unfold Hid; rw [← hW]; exact (HSF1.out.alloc _).alloc _
      have hbW : base ≤ W.heap.size := by omega
      have hPW : P < W.heap.size := by omega
      have hPG : P ≠ w.heap.size + 1 := by omega
      have hPL : P ≠ w1.heap.size := by omega
      have hPM : P ≠ w1.heap.size + 1 := by omega
      have La : Hid (∀ k, va.ownBlock = some k → k < W.heap.size) := fun k hk => by have := Lta.out k hk; omega
      have Lb : Hid (∀ k, vb.ownBlock = some k → k < W.heap.size) := fun k hk => by have := Ltb.out k hk; omega
      have NGa : Hid (some (w.heap.size + 1) ≠ va.ownBlock) := fun e => by have := Lta.out _ e.symm; omega
      have NGb : Hid (some (w.heap.size + 1) ≠ vb.ownBlock) := fun e => by have := Ltb.out _ e.symm; omega
      have NLa : Hid (some w1.heap.size ≠ va.ownBlock) := fun e => by have := Lta.out _ e.symm; omega
      have NLb : Hid (some w1.heap.size ≠ vb.ownBlock) := fun e => by have := Ltb.out _ e.symm; omega
      have NMa : Hid (some (w1.heap.size + 1) ≠ va.ownBlock) := fun e => by have := Lta.out _ e.symm; omega
      have NMb : Hid (some (w1.heap.size + 1) ≠ vb.ownBlock) := fun e => by have := Ltb.out _ e.symm; omega
      have bel : Below base W W.drew := (Below.refl _ _).drew
      have siz : W.heap.size ≤ W.drew.heap.size := Nat.le_refl _
      have saf : Spared W W.drew := Spared.refl W
      clear hW hPW0 hcG hcX
      have HWZ := Lib.hid hWz
      clear hWz
      refine start_ (n := 26) (S := fun w' => True) (ds := []) #[false, false, false, false, false, false, false, false, false, false, false, false, false, false, false, false, false, false, false, false, false, false, false, false, false, false] (by kernel_rfl) rfl rfl trivial (fun hHeld => ?_)
      refine with_tabW link.tab6 link.bits6 (fun HT_ HW_ => ?_)
      refine inv_at [0, 1, 2, 3, 4, 5, 6, 7, 8, 9, 10, 11, 12, 13, 14, 15, 16, 17, 18, 19, 20, 21, 22, 23, 24, 25] (fun a0_ b a w' => ∃ (K1 : Nat) (K2 : Nat) (g1 : Nat) (cap1 : Nat) (g2 : Nat) (cap2 : Nat) (m12_ : Value) (m13_ : Value) (m20_ : Value) (m21_ : Value), a = putSel a0_ b [(0, 53, (.pointer (some ⟨w.heap.size + 1, 1, none⟩))), (1, 54, (.slice (some ⟨P, 0, none⟩) rows.length rows.length)), (2, 55, (.int .i64 ka)), (3, 56, (.pointer (some ⟨w.heap.size + 1, 1, none⟩))), (4, 57, (.slice (some ⟨P, 0, none⟩) rows.length rows.length)), (5, 58, (.int .i64 kb)), (6, 59, (.pointer (some ⟨w.heap.size + 1, 1, none⟩))), (7, 60, (.slice (some ⟨P, 0, none⟩) rows.length rows.length)), (8, 61, (.int .i64 ka)), (9, 62, (.pointer (some ⟨P, ka, none⟩))), (10, 63, va), (11, 64, (.agg #[(.int .i64 kb), (.int .i64 wt)])), (12, 65, m12_), (13, 66, m13_), (14, 67, (.pointer (some ⟨w.heap.size + 1, 1, none⟩))), (15, 68, (.slice (some ⟨P, 0, none⟩) rows.length rows.length)), (16, 69, (.int .i64 kb)), (17, 70, (.pointer (some ⟨P, kb, none⟩))), (18, 71, vb), (19, 72, (.agg #[(.int .i64 ka), (.int .i64 wt)])), (20, 73, m20_), (21, 74, m21_), (22, 75, (.pointer (some ⟨P, ka, none⟩))), (24, 76, (.pointer (some ⟨P, kb, none⟩)))] ∧ (w'.cell? ⟨w.heap.size + 1, 1, none⟩ = some (.slice (some ⟨P, 0, none⟩) rows.length rows.length)) ∧ (w'.cell? ⟨w1.heap.size, 0, none⟩ = some (.int .i64 kb)) ∧ (w'.cell? ⟨w1.heap.size, 1, none⟩ = some (.int .i64 wt)) ∧ (w'.cell? ⟨w1.heap.size + 1, 0, none⟩ = some (.int .i64 ka)) ∧ (w'.cell? ⟨w1.heap.size + 1, 1, none⟩ = some (.int .i64 wt)) ∧ (b 23 = false → w'.heap[P]? = some (.cells vs.toArray 52 (0, 0))) ∧ (b 23 = true → b 25 = false → w'.heap[P]? = some (.cells (vs.set ka (.slice (some ⟨g1, 0, none⟩) (ra.length + 1) cap1 : Value)).toArray 52 (0, 0))) ∧ (b 25 = true → w'.heap[P]? = some (.cells ((vs.set ka (.slice (some ⟨g1, 0, none⟩) (ra.length + 1) cap1 : Value)).set kb (.slice (some ⟨g2, 0, none⟩) (rb.length + 1) cap2 : Value)).toArray 52 (0, 0))) ∧ (b 13 = false → Rows w' base vs rows) ∧ (b 13 = true → b 21 = false → Rows w' base (vs.set ka (.slice (some ⟨g1, 0, none⟩) (ra.length + 1) cap1 : Value)) (rows.set ka (ra ++ [(⟨kb, wt⟩ : Link)]))) ∧ (b 21 = true → Rows w' base ((vs.set ka (.slice (some ⟨g1, 0, none⟩) (ra.length + 1) cap1 : Value)).set kb (.slice (some ⟨g2, 0, none⟩) (rb.length + 1) cap2 : Value)) ((rows.set ka (ra ++ [(⟨kb, wt⟩ : Link)])).set kb (rb ++ [(⟨ka, wt⟩ : Link)]))) ∧ (b 12 = true → b 13 = false → (W.heap.size ≤ K1 ∧ w'.heap[K1]? = some (.cells #[(.int .i64 kb), (.int .i64 wt)] 60 (0, 0)))) ∧ (b 20 = true → b 21 = false → (W.heap.size ≤ K2 ∧ w'.heap[K2]? = some (.cells #[(.int .i64 ka), (.int .i64 wt)] 60 (0, 0)))) ∧ (Below base W w') ∧ (W.heap.size ≤ w'.heap.size) ∧ (Spared W w') ∧ (b 12 = true → (m12_ : Value) = (.slice (some ⟨K1, 0, none⟩) 1 1 : Value)) ∧ (b 13 = true → (m13_ : Value) = (.slice (some ⟨g1, 0, none⟩) (ra.length + 1) cap1 : Value)) ∧ (b 20 = true → (m20_ : Value) = (.slice (some ⟨K2, 0, none⟩) 1 1 : Value)) ∧ (b 21 = true → (m21_ : Value) = (.slice (some ⟨g2, 0, none⟩) (rb.length + 1) cap2 : Value))) HT_.out HW_.out (by kernel_rfl) (by kernel_rfl) ?_ ?_ ?_
      · exact ⟨0, 0, 0, 0, 0, 0, .bool false, .bool false, .bool false, .bool false, by simp only [putSel, Bool.false_eq_true, if_false], cG, cL0, cL1, cM0, cM1, fun _ => blk0, fun h_ => absurd h_ (by decide), fun h_ => absurd h_ (by decide), fun _ => R0, fun h_ => absurd h_ (by decide), fun h_ => absurd h_ (by decide), fun h_ => absurd h_ (by decide), fun h_ => absurd h_ (by decide), bel, siz, saf, fun h_ => absurd h_ (by decide), fun h_ => absurd h_ (by decide), fun h_ => absurd h_ (by decide), fun h_ => absurd h_ (by decide)⟩
      · skip
        clear R0 bel blk0 cG cL0 cL1 cM0 cM1 saf siz
        refine steps_cons ?_ ?_
        · rintro b a w' ⟨K1, K2, g1, cap1, g2, cap2, m12_, m13_, m20_, m21_, ha, Q_cG, Q_cL0, Q_cL1, Q_cM0, Q_cM1, Q_blk0, Q_blk1, Q_blk2, Q_R0, Q_R1, Q_R2, Q_hK1, Q_hK2, Q_bel, Q_siz, Q_saf, Q_X12_, Q_X13_, Q_X20_, Q_X21_⟩ hb_ hon hoff
          refine ⟨_, rfl, fun K hK => ?_⟩
          have e6 : a.tmps[6]? = some ((.pointer (some ⟨w.heap.size + 1, 0, none⟩))) := by rw [ha]; exact (putSel_off rfl).trans rfl
          replace ha := Aside0.mk ha
          have cG := Aside0.mk Q_cG
          have cL0 := Aside0.mk Q_cL0
          have cL1 := Aside0.mk Q_cL1
          have cM0 := Aside0.mk Q_cM0
          have cM1 := Aside0.mk Q_cM1
          have blk0 := Aside0.mk (Q_blk0 (hoff 23 (by kernel_rfl)))
          have bel := Aside0.mk Q_bel
          have siz := Aside0.mk Q_siz
          have saf := Aside0.mk Q_saf
          refine value_ (w1 := w') (v := (.pointer (some ⟨w.heap.size + 1, 1, none⟩))) (by rfl) rfl ?_ ?_
          · go_simp
            (try simp only [i64_w])
            try rfl
          refine hK.out _ _ ⟨K1, K2, g1, cap1, g2, cap2, m12_, m13_, m20_, m21_, (by rw [ha.out]; exact putSel_upk 0 hb_ rfl rfl rfl), Q_cG, Q_cL0, Q_cL1, Q_cM0, Q_cM1, Q_blk0, fun h0_ _ => absurd ((hoff 23 (by kernel_rfl)).symm.trans h0_) (by decide), fun h0_ => absurd ((hoff 25 (by kernel_rfl)).symm.trans h0_) (by decide), Q_R0, Q_R1, Q_R2, Q_hK1, Q_hK2, Q_bel, Q_siz, Q_saf, Q_X12_, Q_X13_, Q_X20_, Q_X21_⟩
        refine steps_cons ?_ ?_
        · rintro b a w' ⟨K1, K2, g1, cap1, g2, cap2, m12_, m13_, m20_, m21_, ha, Q_cG, Q_cL0, Q_cL1, Q_cM0, Q_cM1, Q_blk0, Q_blk1, Q_blk2, Q_R0, Q_R1, Q_R2, Q_hK1, Q_hK2, Q_bel, Q_siz, Q_saf, Q_X12_, Q_X13_, Q_X20_, Q_X21_⟩ hb_ hon hoff
          refine ⟨_, rfl, fun K hK => ?_⟩
          have e53 : a.tmps[53]? = some ((.pointer (some ⟨w.heap.size + 1, 1, none⟩))) := by rw [ha]; exact putSel_on (e := (0, 53, (.pointer (some ⟨w.heap.size + 1, 1, none⟩)))) 0 rfl rfl (hon 0 (by kernel_rfl)) rfl
          replace ha := Aside0.mk ha
          have cG := Aside0.mk Q_cG
          have cL0 := Aside0.mk Q_cL0
          have cL1 := Aside0.mk Q_cL1
          have cM0 := Aside0.mk Q_cM0
          have cM1 := Aside0.mk Q_cM1
          have blk0 := Aside0.mk (Q_blk0 (hoff 23 (by kernel_rfl)))
          have bel := Aside0.mk Q_bel
          have siz := Aside0.mk Q_siz
          have saf := Aside0.mk Q_saf
          have q0 := cG.out
          refine value_ (w1 := w') (v := (.slice (some ⟨P, 0, none⟩) rows.length rows.length)) (by rfl) rfl ?_ ?_
          · go_simp
            (try simp only [i64_w])
            try rfl
          refine hK.out _ _ ⟨K1, K2, g1, cap1, g2, cap2, m12_, m13_, m20_, m21_, (by rw [ha.out]; exact putSel_upk 1 hb_ rfl rfl rfl), Q_cG, Q_cL0, Q_cL1, Q_cM0, Q_cM1, Q_blk0, fun h0_ _ => absurd ((hoff 23 (by kernel_rfl)).symm.trans h0_) (by decide), fun h0_ => absurd ((hoff 25 (by kernel_rfl)).symm.trans h0_) (by decide), Q_R0, Q_R1, Q_R2, Q_hK1, Q_hK2, Q_bel, Q_siz, Q_saf, Q_X12_, Q_X13_, Q_X20_, Q_X21_⟩
        refine steps_cons ?_ ?_
        · rintro b a w' ⟨K1, K2, g1, cap1, g2, cap2, m12_, m13_, m20_, m21_, ha, Q_cG, Q_cL0, Q_cL1, Q_cM0, Q_cM1, Q_blk0, Q_blk1, Q_blk2, Q_R0, Q_R1, Q_R2, Q_hK1, Q_hK2, Q_bel, Q_siz, Q_saf, Q_X12_, Q_X13_, Q_X20_, Q_X21_⟩ hb_ hon hoff
          refine ⟨_, rfl, fun K hK => ?_⟩
          have e2 : a.tmps[2]? = some ((.int .i64 ka)) := by rw [ha]; exact (putSel_off rfl).trans rfl
          replace ha := Aside0.mk ha
          have cG := Aside0.mk Q_cG
          have cL0 := Aside0.mk Q_cL0
          have cL1 := Aside0.mk Q_cL1
          have cM0 := Aside0.mk Q_cM0
          have cM1 := Aside0.mk Q_cM1
          have blk0 := Aside0.mk (Q_blk0 (hoff 23 (by kernel_rfl)))
          have bel := Aside0.mk Q_bel
          have siz := Aside0.mk Q_siz
          have saf := Aside0.mk Q_saf
          refine value_ (w1 := w') (v := (.int .i64 ka)) (by rfl) rfl ?_ ?_
          · go_simp
            (try simp only [i64_w])
            try rfl
          refine hK.out _ _ ⟨K1, K2, g1, cap1, g2, cap2, m12_, m13_, m20_, m21_, (by rw [ha.out]; exact putSel_upk 2 hb_ rfl rfl rfl), Q_cG, Q_cL0, Q_cL1, Q_cM0, Q_cM1, Q_blk0, fun h0_ _ => absurd ((hoff 23 (by kernel_rfl)).symm.trans h0_) (by decide), fun h0_ => absurd ((hoff 25 (by kernel_rfl)).symm.trans h0_) (by decide), Q_R0, Q_R1, Q_R2, Q_hK1, Q_hK2, Q_bel, Q_siz, Q_saf, Q_X12_, Q_X13_, Q_X20_, Q_X21_⟩
        refine steps_cons ?_ ?_
        · rintro b a w' ⟨K1, K2, g1, cap1, g2, cap2, m12_, m13_, m20_, m21_, ha, Q_cG, Q_cL0, Q_cL1, Q_cM0, Q_cM1, Q_blk0, Q_blk1, Q_blk2, Q_R0, Q_R1, Q_R2, Q_hK1, Q_hK2, Q_bel, Q_siz, Q_saf, Q_X12_, Q_X13_, Q_X20_, Q_X21_⟩ hb_ hon hoff
          refine ⟨_, rfl, fun K hK => ?_⟩
          have e6 : a.tmps[6]? = some ((.pointer (some ⟨w.heap.size + 1, 0, none⟩))) := by rw [ha]; exact (putSel_off rfl).trans rfl
          replace ha := Aside0.mk ha
          have cG := Aside0.mk Q_cG
          have cL0 := Aside0.mk Q_cL0
          have cL1 := Aside0.mk Q_cL1
          have cM0 := Aside0.mk Q_cM0
          have cM1 := Aside0.mk Q_cM1
          have bel := Aside0.mk Q_bel
          have siz := Aside0.mk Q_siz
          have saf := Aside0.mk Q_saf
          refine value_ (w1 := w') (v := (.pointer (some ⟨w.heap.size + 1, 1, none⟩))) (by rfl) rfl ?_ ?_
          · go_simp
            (try simp only [i64_w])
            try rfl
          refine hK.out _ _ ⟨K1, K2, g1, cap1, g2, cap2, m12_, m13_, m20_, m21_, (by rw [ha.out]; exact putSel_upk 3 hb_ rfl rfl rfl), Q_cG, Q_cL0, Q_cL1, Q_cM0, Q_cM1, Q_blk0, Q_blk1, fun h0_ => absurd ((hoff 25 (by kernel_rfl)).symm.trans h0_) (by decide), Q_R0, Q_R1, Q_R2, Q_hK1, Q_hK2, Q_bel, Q_siz, Q_saf, Q_X12_, Q_X13_, Q_X20_, Q_X21_⟩
        refine steps_cons ?_ ?_
        · rintro b a w' ⟨K1, K2, g1, cap1, g2, cap2, m12_, m13_, m20_, m21_, ha, Q_cG, Q_cL0, Q_cL1, Q_cM0, Q_cM1, Q_blk0, Q_blk1, Q_blk2, Q_R0, Q_R1, Q_R2, Q_hK1, Q_hK2, Q_bel, Q_siz, Q_saf, Q_X12_, Q_X13_, Q_X20_, Q_X21_⟩ hb_ hon hoff
          refine ⟨_, rfl, fun K hK => ?_⟩
          have e56 : a.tmps[56]? = some ((.pointer (some ⟨w.heap.size + 1, 1, none⟩))) := by rw [ha]; exact putSel_on (e := (3, 56, (.pointer (some ⟨w.heap.size + 1, 1, none⟩)))) 3 rfl rfl (hon 3 (by kernel_rfl)) rfl
          replace ha := Aside0.mk ha
          have cG := Aside0.mk Q_cG
          have cL0 := Aside0.mk Q_cL0
          have cL1 := Aside0.mk Q_cL1
          have cM0 := Aside0.mk Q_cM0
          have cM1 := Aside0.mk Q_cM1
          have bel := Aside0.mk Q_bel
          have siz := Aside0.mk Q_siz
          have saf := Aside0.mk Q_saf
          have q0 := cG.out
          refine value_ (w1 := w') (v := (.slice (some ⟨P, 0, none⟩) rows.length rows.length)) (by rfl) rfl ?_ ?_
          · go_simp
            (try simp only [i64_w])
            try rfl
          refine hK.out _ _ ⟨K1, K2, g1, cap1, g2, cap2, m12_, m13_, m20_, m21_, (by rw [ha.out]; exact putSel_upk 4 hb_ rfl rfl rfl), Q_cG, Q_cL0, Q_cL1, Q_cM0, Q_cM1, Q_blk0, Q_blk1, fun h0_ => absurd ((hoff 25 (by kernel_rfl)).symm.trans h0_) (by decide), Q_R0, Q_R1, Q_R2, Q_hK1, Q_hK2, Q_bel, Q_siz, Q_saf, Q_X12_, Q_X13_, Q_X20_, Q_X21_⟩
        refine steps_cons ?_ ?_
        · rintro b a w' ⟨K1, K2, g1, cap1, g2, cap2, m12_, m13_, m20_, m21_, ha, Q_cG, Q_cL0, Q_cL1, Q_cM0, Q_cM1, Q_blk0, Q_blk1, Q_blk2, Q_R0, Q_R1, Q_R2, Q_hK1, Q_hK2, Q_bel, Q_siz, Q_saf, Q_X12_, Q_X13_, Q_X20_, Q_X21_⟩ hb_ hon hoff
          refine ⟨_, rfl, fun K hK => ?_⟩
          have e3 : a.tmps[3]? = some ((.int .i64 kb)) := by rw [ha]; exact (putSel_off rfl).trans rfl
          replace ha := Aside0.mk ha
          have cG := Aside0.mk Q_cG
          have cL0 := Aside0.mk Q_cL0
          have cL1 := Aside0.mk Q_cL1
          have cM0 := Aside0.mk Q_cM0
          have cM1 := Aside0.mk Q_cM1
          have bel := Aside0.mk Q_bel
          have siz := Aside0.mk Q_siz
          have saf := Aside0.mk Q_saf
          refine value_ (w1 := w') (v := (.int .i64 kb)) (by rfl) rfl ?_ ?_
          · go_simp
            (try simp only [i64_w])
            try rfl
          refine hK.out _ _ ⟨K1, K2, g1, cap1, g2, cap2, m12_, m13_, m20_, m21_, (by rw [ha.out]; exact putSel_upk 5 hb_ rfl rfl rfl), Q_cG, Q_cL0, Q_cL1, Q_cM0, Q_cM1, Q_blk0, Q_blk1, fun h0_ => absurd ((hoff 25 (by kernel_rfl)).symm.trans h0_) (by decide), Q_R0, Q_R1, Q_R2, Q_hK1, Q_hK2, Q_bel, Q_siz, Q_saf, Q_X12_, Q_X13_, Q_X20_, Q_X21_⟩
        refine steps_cons ?_ ?_
        · rintro b a w' ⟨K1, K2, g1, cap1, g2, cap2, m12_, m13_, m20_, m21_, ha, Q_cG, Q_cL0, Q_cL1, Q_cM0, Q_cM1, Q_blk0, Q_blk1, Q_blk2, Q_R0, Q_R1, Q_R2, Q_hK1, Q_hK2, Q_bel, Q_siz, Q_saf, Q_X12_, Q_X13_, Q_X20_, Q_X21_⟩ hb_ hon hoff
          refine ⟨_, rfl, fun K hK => ?_⟩
          have e6 : a.tmps[6]? = some ((.pointer (some ⟨w.heap.size + 1, 0, none⟩))) := by rw [ha]; exact (putSel_off rfl).trans rfl
          replace ha := Aside0.mk ha
          have cG := Aside0.mk Q_cG
          have cL0 := Aside0.mk Q_cL0
          have cL1 := Aside0.mk Q_cL1
          have cM0 := Aside0.mk Q_cM0
          have cM1 := Aside0.mk Q_cM1
          have blk0 := Aside0.mk (Q_blk0 (hoff 23 (by kernel_rfl)))
          have R0 := Aside0.mk (Q_R0 (hoff 13 (by kernel_rfl)))
          have bel := Aside0.mk Q_bel
          have siz := Aside0.mk Q_siz
          have saf := Aside0.mk Q_saf
          refine value_ (w1 := w') (v := (.pointer (some ⟨w.heap.size + 1, 1, none⟩))) (by rfl) rfl ?_ ?_
          · go_simp
            (try simp only [i64_w])
            try rfl
          refine hK.out _ _ ⟨K1, K2, g1, cap1, g2, cap2, m12_, m13_, m20_, m21_, (by rw [ha.out]; exact putSel_upk 6 hb_ rfl rfl rfl), Q_cG, Q_cL0, Q_cL1, Q_cM0, Q_cM1, Q_blk0, fun h0_ _ => absurd ((hoff 23 (by kernel_rfl)).symm.trans h0_) (by decide), fun h0_ => absurd ((hoff 25 (by kernel_rfl)).symm.trans h0_) (by decide), Q_R0, fun h0_ _ => absurd ((hoff 13 (by kernel_rfl)).symm.trans h0_) (by decide), fun h0_ => absurd ((hoff 21 (by kernel_rfl)).symm.trans h0_) (by decide), Q_hK1, Q_hK2, Q_bel, Q_siz, Q_saf, Q_X12_, fun h0_ => absurd ((hoff 13 (by kernel_rfl)).symm.trans h0_) (by decide), Q_X20_, fun h0_ => absurd ((hoff 21 (by kernel_rfl)).symm.trans h0_) (by decide)⟩
        refine steps_cons ?_ ?_
        · rintro b a w' ⟨K1, K2, g1, cap1, g2, cap2, m12_, m13_, m20_, m21_, ha, Q_cG, Q_cL0, Q_cL1, Q_cM0, Q_cM1, Q_blk0, Q_blk1, Q_blk2, Q_R0, Q_R1, Q_R2, Q_hK1, Q_hK2, Q_bel, Q_siz, Q_saf, Q_X12_, Q_X13_, Q_X20_, Q_X21_⟩ hb_ hon hoff
          refine ⟨_, rfl, fun K hK => ?_⟩
          have e59 : a.tmps[59]? = some ((.pointer (some ⟨w.heap.size + 1, 1, none⟩))) := by rw [ha]; exact putSel_on (e := (6, 59, (.pointer (some ⟨w.heap.size + 1, 1, none⟩)))) 6 rfl rfl (hon 6 (by kernel_rfl)) rfl
          replace ha := Aside0.mk ha
          have cG := Aside0.mk Q_cG
          have cL0 := Aside0.mk Q_cL0
          have cL1 := Aside0.mk Q_cL1
          have cM0 := Aside0.mk Q_cM0
          have cM1 := Aside0.mk Q_cM1
          have blk0 := Aside0.mk (Q_blk0 (hoff 23 (by kernel_rfl)))
          have R0 := Aside0.mk (Q_R0 (hoff 13 (by kernel_rfl)))
          have bel := Aside0.mk Q_bel
          have siz := Aside0.mk Q_siz
          have saf := Aside0.mk Q_saf
          have q0 := cG.out
          refine value_ (w1 := w') (v := (.slice (some ⟨P, 0, none⟩) rows.length rows.length)) (by rfl) rfl ?_ ?_
          · go_simp
            (try simp only [i64_w])
            try rfl
          refine hK.out _ _ ⟨K1, K2, g1, cap1, g2, cap2, m12_, m13_, m20_, m21_, (by rw [ha.out]; exact putSel_upk 7 hb_ rfl rfl rfl), Q_cG, Q_cL0, Q_cL1, Q_cM0, Q_cM1, Q_blk0, fun h0_ _ => absurd ((hoff 23 (by kernel_rfl)).symm.trans h0_) (by decide), fun h0_ => absurd ((hoff 25 (by kernel_rfl)).symm.trans h0_) (by decide), Q_R0, fun h0_ _ => absurd ((hoff 13 (by kernel_rfl)).symm.trans h0_) (by decide), fun h0_ => absurd ((hoff 21 (by kernel_rfl)).symm.trans h0_) (by decide), Q_hK1, Q_hK2, Q_bel, Q_siz, Q_saf, Q_X12_, fun h0_ => absurd ((hoff 13 (by kernel_rfl)).symm.trans h0_) (by decide), Q_X20_, fun h0_ => absurd ((hoff 21 (by kernel_rfl)).symm.trans h0_) (by decide)⟩
        refine steps_cons ?_ ?_
        · rintro b a w' ⟨K1, K2, g1, cap1, g2, cap2, m12_, m13_, m20_, m21_, ha, Q_cG, Q_cL0, Q_cL1, Q_cM0, Q_cM1, Q_blk0, Q_blk1, Q_blk2, Q_R0, Q_R1, Q_R2, Q_hK1, Q_hK2, Q_bel, Q_siz, Q_saf, Q_X12_, Q_X13_, Q_X20_, Q_X21_⟩ hb_ hon hoff
          refine ⟨_, rfl, fun K hK => ?_⟩
          have e2 : a.tmps[2]? = some ((.int .i64 ka)) := by rw [ha]; exact (putSel_off rfl).trans rfl
          replace ha := Aside0.mk ha
          have cG := Aside0.mk Q_cG
          have cL0 := Aside0.mk Q_cL0
          have cL1 := Aside0.mk Q_cL1
          have cM0 := Aside0.mk Q_cM0
          have cM1 := Aside0.mk Q_cM1
          have blk0 := Aside0.mk (Q_blk0 (hoff 23 (by kernel_rfl)))
          have R0 := Aside0.mk (Q_R0 (hoff 13 (by kernel_rfl)))
          have bel := Aside0.mk Q_bel
          have siz := Aside0.mk Q_siz
          have saf := Aside0.mk Q_saf
          refine value_ (w1 := w') (v := (.int .i64 ka)) (by rfl) rfl ?_ ?_
          · go_simp
            (try simp only [i64_w])
            try rfl
          refine hK.out _ _ ⟨K1, K2, g1, cap1, g2, cap2, m12_, m13_, m20_, m21_, (by rw [ha.out]; exact putSel_upk 8 hb_ rfl rfl rfl), Q_cG, Q_cL0, Q_cL1, Q_cM0, Q_cM1, Q_blk0, fun h0_ _ => absurd ((hoff 23 (by kernel_rfl)).symm.trans h0_) (by decide), fun h0_ => absurd ((hoff 25 (by kernel_rfl)).symm.trans h0_) (by decide), Q_R0, fun h0_ _ => absurd ((hoff 13 (by kernel_rfl)).symm.trans h0_) (by decide), fun h0_ => absurd ((hoff 21 (by kernel_rfl)).symm.trans h0_) (by decide), Q_hK1, Q_hK2, Q_bel, Q_siz, Q_saf, Q_X12_, fun h0_ => absurd ((hoff 13 (by kernel_rfl)).symm.trans h0_) (by decide), Q_X20_, fun h0_ => absurd ((hoff 21 (by kernel_rfl)).symm.trans h0_) (by decide)⟩
        refine steps_cons ?_ ?_
        · rintro b a w' ⟨K1, K2, g1, cap1, g2, cap2, m12_, m13_, m20_, m21_, ha, Q_cG, Q_cL0, Q_cL1, Q_cM0, Q_cM1, Q_blk0, Q_blk1, Q_blk2, Q_R0, Q_R1, Q_R2, Q_hK1, Q_hK2, Q_bel, Q_siz, Q_saf, Q_X12_, Q_X13_, Q_X20_, Q_X21_⟩ hb_ hon hoff
          refine ⟨_, rfl, fun K hK => ?_⟩
          have e60 : a.tmps[60]? = some ((.slice (some ⟨P, 0, none⟩) rows.length rows.length)) := by rw [ha]; exact putSel_on (e := (7, 60, (.slice (some ⟨P, 0, none⟩) rows.length rows.length))) 7 rfl rfl (hon 7 (by kernel_rfl)) rfl
          have e61 : a.tmps[61]? = some ((.int .i64 ka)) := by rw [ha]; exact putSel_on (e := (8, 61, (.int .i64 ka))) 8 rfl rfl (hon 8 (by kernel_rfl)) rfl
          replace ha := Aside0.mk ha
          have cG := Aside0.mk Q_cG
          have cL0 := Aside0.mk Q_cL0
          have cL1 := Aside0.mk Q_cL1
          have cM0 := Aside0.mk Q_cM0
          have cM1 := Aside0.mk Q_cM1
          have blk0 := Aside0.mk (Q_blk0 (hoff 23 (by kernel_rfl)))
          have R0 := Aside0.mk (Q_R0 (hoff 13 (by kernel_rfl)))
          have bel := Aside0.mk Q_bel
          have siz := Aside0.mk Q_siz
          have saf := Aside0.mk Q_saf
          refine value_ (w1 := w') (v := (.pointer (some ⟨P, ka, none⟩))) (by rfl) rfl ?_ ?_
          · go_simp
            (try simp only [i64_w])
            try rfl
          refine hK.out _ _ ⟨K1, K2, g1, cap1, g2, cap2, m12_, m13_, m20_, m21_, (by rw [ha.out]; exact putSel_upk 9 hb_ rfl rfl rfl), Q_cG, Q_cL0, Q_cL1, Q_cM0, Q_cM1, Q_blk0, fun h0_ _ => absurd ((hoff 23 (by kernel_rfl)).symm.trans h0_) (by decide), fun h0_ => absurd ((hoff 25 (by kernel_rfl)).symm.trans h0_) (by decide), Q_R0, fun h0_ _ => absurd ((hoff 13 (by kernel_rfl)).symm.trans h0_) (by decide), fun h0_ => absurd ((hoff 21 (by kernel_rfl)).symm.trans h0_) (by decide), Q_hK1, Q_hK2, Q_bel, Q_siz, Q_saf, Q_X12_, fun h0_ => absurd ((hoff 13 (by kernel_rfl)).symm.trans h0_) (by decide), Q_X20_, fun h0_ => absurd ((hoff 21 (by kernel_rfl)).symm.trans h0_) (by decide)⟩
        refine steps_cons ?_ ?_
        · rintro b a w' ⟨K1, K2, g1, cap1, g2, cap2, m12_, m13_, m20_, m21_, ha, Q_cG, Q_cL0, Q_cL1, Q_cM0, Q_cM1, Q_blk0, Q_blk1, Q_blk2, Q_R0, Q_R1, Q_R2, Q_hK1, Q_hK2, Q_bel, Q_siz, Q_saf, Q_X12_, Q_X13_, Q_X20_, Q_X21_⟩ hb_ hon hoff
          refine ⟨_, rfl, fun K hK => ?_⟩
          have e62 : a.tmps[62]? = some ((.pointer (some ⟨P, ka, none⟩))) := by rw [ha]; exact putSel_on (e := (9, 62, (.pointer (some ⟨P, ka, none⟩)))) 9 rfl rfl (hon 9 (by kernel_rfl)) rfl
          replace ha := Aside0.mk ha
          have cG := Aside0.mk Q_cG
          have cL0 := Aside0.mk Q_cL0
          have cL1 := Aside0.mk Q_cL1
          have cM0 := Aside0.mk Q_cM0
          have cM1 := Aside0.mk Q_cM1
          have blk0 := Aside0.mk (Q_blk0 (hoff 23 (by kernel_rfl)))
          have R0 := Aside0.mk (Q_R0 (hoff 13 (by kernel_rfl)))
          have bel := Aside0.mk Q_bel
          have siz := Aside0.mk Q_siz
          have saf := Aside0.mk Q_saf
          have q0 := port_cell blk0.out HA.out
          refine value_ (w1 := w') (v := va) (by rfl) rfl ?_ ?_
          · go_simp
            (try simp only [i64_w])
            try rfl
          refine hK.out _ _ ⟨K1, K2, g1, cap1, g2, cap2, m12_, m13_, m20_, m21_, (by rw [ha.out]; exact putSel_upk 10 hb_ rfl rfl rfl), Q_cG, Q_cL0, Q_cL1, Q_cM0, Q_cM1, Q_blk0, fun h0_ _ => absurd ((hoff 23 (by kernel_rfl)).symm.trans h0_) (by decide), fun h0_ => absurd ((hoff 25 (by kernel_rfl)).symm.trans h0_) (by decide), Q_R0, fun h0_ _ => absurd ((hoff 13 (by kernel_rfl)).symm.trans h0_) (by decide), fun h0_ => absurd ((hoff 21 (by kernel_rfl)).symm.trans h0_) (by decide), Q_hK1, Q_hK2, Q_bel, Q_siz, Q_saf, Q_X12_, fun h0_ => absurd ((hoff 13 (by kernel_rfl)).symm.trans h0_) (by decide), Q_X20_, fun h0_ => absurd ((hoff 21 (by kernel_rfl)).symm.trans h0_) (by decide)⟩
        refine steps_cons ?_ ?_
        · rintro b a w' ⟨K1, K2, g1, cap1, g2, cap2, m12_, m13_, m20_, m21_, ha, Q_cG, Q_cL0, Q_cL1, Q_cM0, Q_cM1, Q_blk0, Q_blk1, Q_blk2, Q_R0, Q_R1, Q_R2, Q_hK1, Q_hK2, Q_bel, Q_siz, Q_saf, Q_X12_, Q_X13_, Q_X20_, Q_X21_⟩ hb_ hon hoff
          refine ⟨_, rfl, fun K hK => ?_⟩
          have e10 : a.tmps[10]? = some ((.pointer (some ⟨w1.heap.size, 0, none⟩))) := by rw [ha]; exact (putSel_off rfl).trans rfl
          replace ha := Aside0.mk ha
          have cG := Aside0.mk Q_cG
          have cL0 := Aside0.mk Q_cL0
          have cL1 := Aside0.mk Q_cL1
          have cM0 := Aside0.mk Q_cM0
          have cM1 := Aside0.mk Q_cM1
          have blk0 := Aside0.mk (Q_blk0 (hoff 23 (by kernel_rfl)))
          have R0 := Aside0.mk (Q_R0 (hoff 13 (by kernel_rfl)))
          have bel := Aside0.mk Q_bel
          have siz := Aside0.mk Q_siz
          have saf := Aside0.mk Q_saf
          have q0 := cL0.out
          have q1 := cL1.out
          refine value_ (w1 := w') (v := (.agg #[(.int .i64 kb), (.int .i64 wt)])) (by rfl) rfl ?_ ?_
          · go_simp
            (try simp only [i64_w])
            try rfl
          refine hK.out _ _ ⟨K1, K2, g1, cap1, g2, cap2, m12_, m13_, m20_, m21_, (by rw [ha.out]; exact putSel_upk 11 hb_ rfl rfl rfl), Q_cG, Q_cL0, Q_cL1, Q_cM0, Q_cM1, Q_blk0, fun h0_ _ => absurd ((hoff 23 (by kernel_rfl)).symm.trans h0_) (by decide), fun h0_ => absurd ((hoff 25 (by kernel_rfl)).symm.trans h0_) (by decide), Q_R0, fun h0_ _ => absurd ((hoff 13 (by kernel_rfl)).symm.trans h0_) (by decide), fun h0_ => absurd ((hoff 21 (by kernel_rfl)).symm.trans h0_) (by decide), fun h0_ _ => absurd ((hoff 12 (by kernel_rfl)).symm.trans h0_) (by decide), Q_hK2, Q_bel, Q_siz, Q_saf, fun h0_ => absurd ((hoff 12 (by kernel_rfl)).symm.trans h0_) (by decide), fun h0_ => absurd ((hoff 13 (by kernel_rfl)).symm.trans h0_) (by decide), Q_X20_, fun h0_ => absurd ((hoff 21 (by kernel_rfl)).symm.trans h0_) (by decide)⟩
        refine steps_cons ?_ ?_
        · rintro b a w' ⟨K1, K2, g1, cap1, g2, cap2, m12_, m13_, m20_, m21_, ha, Q_cG, Q_cL0, Q_cL1, Q_cM0, Q_cM1, Q_blk0, Q_blk1, Q_blk2, Q_R0, Q_R1, Q_R2, Q_hK1, Q_hK2, Q_bel, Q_siz, Q_saf, Q_X12_, Q_X13_, Q_X20_, Q_X21_⟩ hb_ hon hoff
          refine ⟨_, rfl, fun K hK => ?_⟩
          have e64 : a.tmps[64]? = some ((.agg #[(.int .i64 kb), (.int .i64 wt)])) := by rw [ha]; exact putSel_on (e := (11, 64, (.agg #[(.int .i64 kb), (.int .i64 wt)]))) 11 rfl rfl (hon 11 (by kernel_rfl)) rfl
          replace ha := Aside0.mk ha
          have cG := Aside0.mk Q_cG
          have cL0 := Aside0.mk Q_cL0
          have cL1 := Aside0.mk Q_cL1
          have cM0 := Aside0.mk Q_cM0
          have cM1 := Aside0.mk Q_cM1
          have blk0 := Aside0.mk (Q_blk0 (hoff 23 (by kernel_rfl)))
          have R0 := Aside0.mk (Q_R0 (hoff 13 (by kernel_rfl)))
          have bel := Aside0.mk Q_bel
          have siz := Aside0.mk Q_siz
          have saf := Aside0.mk Q_saf
          refine value_ (w1 := w'.alloc (.cells #[(.int .i64 kb), (.int .i64 wt)] 60)) (v := .slice (some ⟨w'.heap.size, 0, none⟩) 1 1) (by rfl) rfl ?_ ?_
          · go_simp
            try rfl
          refine hK.out _ _ ⟨w'.heap.size, K2, g1, cap1, g2, cap2, ((.slice (some ⟨w'.heap.size, 0, none⟩) 1 1 : Value)), m13_, m20_, m21_, (by rw [ha.out]; exact putSel_upk 12 hb_ rfl rfl rfl), cell_a _ cG.out, cell_a _ cL0.out, cell_a _ cL1.out, cell_a _ cM0.out, cell_a _ cM1.out, fun _ => (Below.heap_alloc _ _ _ (blk_lt blk0.out)).trans blk0.out, fun h0_ _ => absurd ((hoff 23 (by kernel_rfl)).symm.trans h0_) (by decide), fun h0_ => absurd ((hoff 25 (by kernel_rfl)).symm.trans h0_) (by decide), fun _ => R0.out.alloc _, fun h0_ _ => absurd ((hoff 13 (by kernel_rfl)).symm.trans h0_) (by decide), fun h0_ => absurd ((hoff 21 (by kernel_rfl)).symm.trans h0_) (by decide), fun _ _ => ⟨siz.out, heap_alloc_new _ _⟩, fun h0_ h1_ => ⟨(Q_hK2 h0_ h1_).1, (Below.heap_alloc _ _ _ (blk_lt (Q_hK2 h0_ h1_).2)).trans (Q_hK2 h0_ h1_).2⟩, bel.out.alloc (Nat.le_trans hbW siz.out) _, Nat.le_trans siz.out (by simp), saf.out.alloc _, fun _ => rfl, fun h0_ => absurd ((hoff 13 (by kernel_rfl)).symm.trans h0_) (by decide), Q_X20_, fun h0_ => absurd ((hoff 21 (by kernel_rfl)).symm.trans h0_) (by decide)⟩
        refine steps_cons ?_ ?_
        · rintro b a w' ⟨K1, K2, g1, cap1, g2, cap2, m12_, m13_, m20_, m21_, ha, Q_cG, Q_cL0, Q_cL1, Q_cM0, Q_cM1, Q_blk0, Q_blk1, Q_blk2, Q_R0, Q_R1, Q_R2, Q_hK1, Q_hK2, Q_bel, Q_siz, Q_saf, Q_X12_, Q_X13_, Q_X20_, Q_X21_⟩ hb_ hon hoff
          refine ⟨_, rfl, fun K hK => ?_⟩
          have e63 : a.tmps[63]? = some (va) := by rw [ha]; exact putSel_on (e := (10, 63, va)) 10 rfl rfl (hon 10 (by kernel_rfl)) rfl
          have e65 : a.tmps[65]? = some (m12_) := by rw [ha]; exact putSel_on (e := (12, 65, m12_)) 12 rfl rfl (hon 12 (by kernel_rfl)) rfl
          rw [Q_X12_ (hon 12 (by kernel_rfl))] at e65
          replace ha := Aside0.mk ha
          have cG := Aside0.mk Q_cG
          have cL0 := Aside0.mk Q_cL0
          have cL1 := Aside0.mk Q_cL1
          have cM0 := Aside0.mk Q_cM0
          have cM1 := Aside0.mk Q_cM1
          have blk0 := Aside0.mk (Q_blk0 (hoff 23 (by kernel_rfl)))
          have R0 := Aside0.mk (Q_R0 hb_)
          have hK1 := Aside0.mk (Q_hK1 (hon 12 (by kernel_rfl)) hb_)
          have bel := Aside0.mk Q_bel
          have siz := Aside0.mk Q_siz
          have saf := Aside0.mk Q_saf
          refine step_append_lies _ (by rfl) (.tmp 63) (.tmp 65) _ (by rfl) base 60 i0 _ 2 16 Try.underlying52 hi0 hz0 hz1 hz2 rfl (by omega) va ra.length (lcells ra) (eval_of e63) (R0.out.own ka va ra HA.out HRa.out) _ 1 1 [(.int .i64 kb), (.int .i64 wt)] (eval_of e65) (by rfl) (World.news_of_block (cs := #[(.int .i64 kb), (.int .i64 wt)]) hK1.out.2) (by simp [Value.oneCell']) (by omega) (by have := HLa.out; unfold maxLen; omega) (by have := HLa.out; omega) (Nat.le_trans hbW siz.out) _ (by rfl) ?_
          intro gn capn wn hown hgr hat hlt
          refine hK.out _ _ ⟨K1, K2, gn, capn, g2, cap2, m12_, ((.slice (some ⟨gn, 0, none⟩) (ra.length + 1) capn : Value)), m20_, m21_, (by rw [ha.out]; exact putSel_upk 13 hb_ rfl rfl rfl), hgr.cell cG.out NGa.out, hgr.cell cL0.out NLa.out, hgr.cell cL1.out NLa.out, hgr.cell cM0.out NMa.out, hgr.cell cM1.out NMa.out, fun _ => (hgr.block _ (blk_lt blk0.out) NPa.out).trans blk0.out, fun h0_ _ => absurd ((hoff 23 (by kernel_rfl)).symm.trans h0_) (by decide), fun h0_ => absurd ((hoff 25 (by kernel_rfl)).symm.trans h0_) (by decide), fun h0_ => absurd ((up_self b 13).symm.trans h0_) (by decide), fun _ _ => R0.out.upd HA.out hgr (by simpa [lcells_append, lcells_one] using hown) (by simp) (.inr (by rcases hat with h | h; exact .inl h.symm; exact .inr ⟨gn, rfl, by rw [h]; exact Nat.le_refl _⟩)), fun h0_ => absurd ((hoff 21 (by kernel_rfl)).symm.trans h0_) (by decide), fun _ h1_ => absurd ((up_self b 13).symm.trans h1_) (by decide), fun h0_ h1_ => ⟨(Q_hK2 h0_ h1_).1, (hgr.block _ (blk_lt (Q_hK2 h0_ h1_).2) (fun e => by have := La.out _ e.symm; have := (Q_hK2 h0_ h1_).1; omega)).trans (Q_hK2 h0_ h1_).2⟩, bel.out.grown hgr (Nat.le_trans hbW siz.out) HBa.out, Nat.le_trans siz.out hgr.size, saf.out.grown hgr (fun k hk => (own_typed (R0.out.own ka va ra HA.out HRa.out) k hk).2), Q_X12_, fun _ => rfl, Q_X20_, fun h0_ => absurd ((hoff 21 (by kernel_rfl)).symm.trans h0_) (by decide)⟩
        refine steps_cons ?_ ?_
        · rintro b a w' ⟨K1, K2, g1, cap1, g2, cap2, m12_, m13_, m20_, m21_, ha, Q_cG, Q_cL0, Q_cL1, Q_cM0, Q_cM1, Q_blk0, Q_blk1, Q_blk2, Q_R0, Q_R1, Q_R2, Q_hK1, Q_hK2, Q_bel, Q_siz, Q_saf, Q_X12_, Q_X13_, Q_X20_, Q_X21_⟩ hb_ hon hoff
          refine ⟨_, rfl, fun K hK => ?_⟩
          have e6 : a.tmps[6]? = some ((.pointer (some ⟨w.heap.size + 1, 0, none⟩))) := by rw [ha]; exact (putSel_off rfl).trans rfl
          replace ha := Aside0.mk ha
          have cG := Aside0.mk Q_cG
          have cL0 := Aside0.mk Q_cL0
          have cL1 := Aside0.mk Q_cL1
          have cM0 := Aside0.mk Q_cM0
          have cM1 := Aside0.mk Q_cM1
          have blk0 := Aside0.mk (Q_blk0 (hoff 23 (by kernel_rfl)))
          have bel := Aside0.mk Q_bel
          have siz := Aside0.mk Q_siz
          have saf := Aside0.mk Q_saf
          refine value_ (w1 := w') (v := (.pointer (some ⟨w.heap.size + 1, 1, none⟩))) (by rfl) rfl ?_ ?_
          · go_simp
            (try simp only [i64_w])
            try rfl
          refine hK.out _ _ ⟨K1, K2, g1, cap1, g2, cap2, m12_, m13_, m20_, m21_, (by rw [ha.out]; exact putSel_upk 14 hb_ rfl rfl rfl), Q_cG, Q_cL0, Q_cL1, Q_cM0, Q_cM1, Q_blk0, fun h0_ _ => absurd ((hoff 23 (by kernel_rfl)).symm.trans h0_) (by decide), fun h0_ => absurd ((hoff 25 (by kernel_rfl)).symm.trans h0_) (by decide), Q_R0, Q_R1, fun h0_ => absurd ((hoff 21 (by kernel_rfl)).symm.trans h0_) (by decide), Q_hK1, Q_hK2, Q_bel, Q_siz, Q_saf, Q_X12_, Q_X13_, Q_X20_, fun h0_ => absurd ((hoff 21 (by kernel_rfl)).symm.trans h0_) (by decide)⟩
        refine steps_cons ?_ ?_
        · rintro b a w' ⟨K1, K2, g1, cap1, g2, cap2, m12_, m13_, m20_, m21_, ha, Q_cG, Q_cL0, Q_cL1, Q_cM0, Q_cM1, Q_blk0, Q_blk1, Q_blk2, Q_R0, Q_R1, Q_R2, Q_hK1, Q_hK2, Q_bel, Q_siz, Q_saf, Q_X12_, Q_X13_, Q_X20_, Q_X21_⟩ hb_ hon hoff
          refine ⟨_, rfl, fun K hK => ?_⟩
          have e67 : a.tmps[67]? = some ((.pointer (some ⟨w.heap.size + 1, 1, none⟩))) := by rw [ha]; exact putSel_on (e := (14, 67, (.pointer (some ⟨w.heap.size + 1, 1, none⟩)))) 14 rfl rfl (hon 14 (by kernel_rfl)) rfl
          replace ha := Aside0.mk ha
          have cG := Aside0.mk Q_cG
          have cL0 := Aside0.mk Q_cL0
          have cL1 := Aside0.mk Q_cL1
          have cM0 := Aside0.mk Q_cM0
          have cM1 := Aside0.mk Q_cM1
          have blk0 := Aside0.mk (Q_blk0 (hoff 23 (by kernel_rfl)))
          have bel := Aside0.mk Q_bel
          have siz := Aside0.mk Q_siz
          have saf := Aside0.mk Q_saf
          have q0 := cG.out
          refine value_ (w1 := w') (v := (.slice (some ⟨P, 0, none⟩) rows.length rows.length)) (by rfl) rfl ?_ ?_
          · go_simp
            (try simp only [i64_w])
            try rfl
          refine hK.out _ _ ⟨K1, K2, g1, cap1, g2, cap2, m12_, m13_, m20_, m21_, (by rw [ha.out]; exact putSel_upk 15 hb_ rfl rfl rfl), Q_cG, Q_cL0, Q_cL1, Q_cM0, Q_cM1, Q_blk0, fun h0_ _ => absurd ((hoff 23 (by kernel_rfl)).symm.trans h0_) (by decide), fun h0_ => absurd ((hoff 25 (by kernel_rfl)).symm.trans h0_) (by decide), Q_R0, Q_R1, fun h0_ => absurd ((hoff 21 (by kernel_rfl)).symm.trans h0_) (by decide), Q_hK1, Q_hK2, Q_bel, Q_siz, Q_saf, Q_X12_, Q_X13_, Q_X20_, fun h0_ => absurd ((hoff 21 (by kernel_rfl)).symm.trans h0_) (by decide)⟩
        refine steps_cons ?_ ?_
        · rintro b a w' ⟨K1, K2, g1, cap1, g2, cap2, m12_, m13_, m20_, m21_, ha, Q_cG, Q_cL0, Q_cL1, Q_cM0, Q_cM1, Q_blk0, Q_blk1, Q_blk2, Q_R0, Q_R1, Q_R2, Q_hK1, Q_hK2, Q_bel, Q_siz, Q_saf, Q_X12_, Q_X13_, Q_X20_, Q_X21_⟩ hb_ hon hoff
          refine ⟨_, rfl, fun K hK => ?_⟩
          have e3 : a.tmps[3]? = some ((.int .i64 kb)) := by rw [ha]; exact (putSel_off rfl).trans rfl
          replace ha := Aside0.mk ha
          have cG := Aside0.mk Q_cG
          have cL0 := Aside0.mk Q_cL0
          have cL1 := Aside0.mk Q_cL1
          have cM0 := Aside0.mk Q_cM0
          have cM1 := Aside0.mk Q_cM1
          have blk0 := Aside0.mk (Q_blk0 (hoff 23 (by kernel_rfl)))
          have bel := Aside0.mk Q_bel
          have siz := Aside0.mk Q_siz
          have saf := Aside0.mk Q_saf
          refine value_ (w1 := w') (v := (.int .i64 kb)) (by rfl) rfl ?_ ?_
          · go_simp
            (try simp only [i64_w])
            try rfl
          refine hK.out _ _ ⟨K1, K2, g1, cap1, g2, cap2, m12_, m13_, m20_, m21_, (by rw [ha.out]; exact putSel_upk 16 hb_ rfl rfl rfl), Q_cG, Q_cL0, Q_cL1, Q_cM0, Q_cM1, Q_blk0, fun h0_ _ => absurd ((hoff 23 (by kernel_rfl)).symm.trans h0_) (by decide), fun h0_ => absurd ((hoff 25 (by kernel_rfl)).symm.trans h0_) (by decide), Q_R0, Q_R1, fun h0_ => absurd ((hoff 21 (by kernel_rfl)).symm.trans h0_) (by decide), Q_hK1, Q_hK2, Q_bel, Q_siz, Q_saf, Q_X12_, Q_X13_, Q_X20_, fun h0_ => absurd ((hoff 21 (by kernel_rfl)).symm.trans h0_) (by decide)⟩
        refine steps_cons ?_ ?_
        · rintro b a w' ⟨K1, K2, g1, cap1, g2, cap2, m12_, m13_, m20_, m21_, ha, Q_cG, Q_cL0, Q_cL1, Q_cM0, Q_cM1, Q_blk0, Q_blk1, Q_blk2, Q_R0, Q_R1, Q_R2, Q_hK1, Q_hK2, Q_bel, Q_siz, Q_saf, Q_X12_, Q_X13_, Q_X20_, Q_X21_⟩ hb_ hon hoff
          refine ⟨_, rfl, fun K hK => ?_⟩
          have e68 : a.tmps[68]? = some ((.slice (some ⟨P, 0, none⟩) rows.length rows.length)) := by rw [ha]; exact putSel_on (e := (15, 68, (.slice (some ⟨P, 0, none⟩) rows.length rows.length))) 15 rfl rfl (hon 15 (by kernel_rfl)) rfl
          have e69 : a.tmps[69]? = some ((.int .i64 kb)) := by rw [ha]; exact putSel_on (e := (16, 69, (.int .i64 kb))) 16 rfl rfl (hon 16 (by kernel_rfl)) rfl
          replace ha := Aside0.mk ha
          have cG := Aside0.mk Q_cG
          have cL0 := Aside0.mk Q_cL0
          have cL1 := Aside0.mk Q_cL1
          have cM0 := Aside0.mk Q_cM0
          have cM1 := Aside0.mk Q_cM1
          have blk0 := Aside0.mk (Q_blk0 (hoff 23 (by kernel_rfl)))
          have bel := Aside0.mk Q_bel
          have siz := Aside0.mk Q_siz
          have saf := Aside0.mk Q_saf
          refine value_ (w1 := w') (v := (.pointer (some ⟨P, kb, none⟩))) (by rfl) rfl ?_ ?_
          · go_simp
            (try simp only [i64_w])
            try rfl
          refine hK.out _ _ ⟨K1, K2, g1, cap1, g2, cap2, m12_, m13_, m20_, m21_, (by rw [ha.out]; exact putSel_upk 17 hb_ rfl rfl rfl), Q_cG, Q_cL0, Q_cL1, Q_cM0, Q_cM1, Q_blk0, fun h0_ _ => absurd ((hoff 23 (by kernel_rfl)).symm.trans h0_) (by decide), fun h0_ => absurd ((hoff 25 (by kernel_rfl)).symm.trans h0_) (by decide), Q_R0, Q_R1, fun h0_ => absurd ((hoff 21 (by kernel_rfl)).symm.trans h0_) (by decide), Q_hK1, Q_hK2, Q_bel, Q_siz, Q_saf, Q_X12_, Q_X13_, Q_X20_, fun h0_ => absurd ((hoff 21 (by kernel_rfl)).symm.trans h0_) (by decide)⟩
        refine steps_cons ?_ ?_
        · rintro b a w' ⟨K1, K2, g1, cap1, g2, cap2, m12_, m13_, m20_, m21_, ha, Q_cG, Q_cL0, Q_cL1, Q_cM0, Q_cM1, Q_blk0, Q_blk1, Q_blk2, Q_R0, Q_R1, Q_R2, Q_hK1, Q_hK2, Q_bel, Q_siz, Q_saf, Q_X12_, Q_X13_, Q_X20_, Q_X21_⟩ hb_ hon hoff
          refine ⟨_, rfl, fun K hK => ?_⟩
          have e70 : a.tmps[70]? = some ((.pointer (some ⟨P, kb, none⟩))) := by rw [ha]; exact putSel_on (e := (17, 70, (.pointer (some ⟨P, kb, none⟩)))) 17 rfl rfl (hon 17 (by kernel_rfl)) rfl
          replace ha := Aside0.mk ha
          have cG := Aside0.mk Q_cG
          have cL0 := Aside0.mk Q_cL0
          have cL1 := Aside0.mk Q_cL1
          have cM0 := Aside0.mk Q_cM0
          have cM1 := Aside0.mk Q_cM1
          have blk0 := Aside0.mk (Q_blk0 (hoff 23 (by kernel_rfl)))
          have bel := Aside0.mk Q_bel
          have siz := Aside0.mk Q_siz
          have saf := Aside0.mk Q_saf
          have q0 := port_cell blk0.out Hb.out
          refine value_ (w1 := w') (v := vb) (by rfl) rfl ?_ ?_
          · go_simp
            (try simp only [i64_w])
            try rfl
          refine hK.out _ _ ⟨K1, K2, g1, cap1, g2, cap2, m12_, m13_, m20_, m21_, (by rw [ha.out]; exact putSel_upk 18 hb_ rfl rfl rfl), Q_cG, Q_cL0, Q_cL1, Q_cM0, Q_cM1, Q_blk0, fun h0_ _ => absurd ((hoff 23 (by kernel_rfl)).symm.trans h0_) (by decide), fun h0_ => absurd ((hoff 25 (by kernel_rfl)).symm.trans h0_) (by decide), Q_R0, Q_R1, fun h0_ => absurd ((hoff 21 (by kernel_rfl)).symm.trans h0_) (by decide), Q_hK1, Q_hK2, Q_bel, Q_siz, Q_saf, Q_X12_, Q_X13_, Q_X20_, fun h0_ => absurd ((hoff 21 (by kernel_rfl)).symm.trans h0_) (by decide)⟩
        refine steps_cons ?_ ?_
        · rintro b a w' ⟨K1, K2, g1, cap1, g2, cap2, m12_, m13_, m20_, m21_, ha, Q_cG, Q_cL0, Q_cL1, Q_cM0, Q_cM1, Q_blk0, Q_blk1, Q_blk2, Q_R0, Q_R1, Q_R2, Q_hK1, Q_hK2, Q_bel, Q_siz, Q_saf, Q_X12_, Q_X13_, Q_X20_, Q_X21_⟩ hb_ hon hoff
          refine ⟨_, rfl, fun K hK => ?_⟩
          have e11 : a.tmps[11]? = some ((.pointer (some ⟨w1.heap.size + 1, 0, none⟩))) := by rw [ha]; exact (putSel_off rfl).trans rfl
          replace ha := Aside0.mk ha
          have cG := Aside0.mk Q_cG
          have cL0 := Aside0.mk Q_cL0
          have cL1 := Aside0.mk Q_cL1
          have cM0 := Aside0.mk Q_cM0
          have cM1 := Aside0.mk Q_cM1
          have blk0 := Aside0.mk (Q_blk0 (hoff 23 (by kernel_rfl)))
          have bel := Aside0.mk Q_bel
          have siz := Aside0.mk Q_siz
          have saf := Aside0.mk Q_saf
          have q0 := cM0.out
          have q1 := cM1.out
          refine value_ (w1 := w') (v := (.agg #[(.int .i64 ka), (.int .i64 wt)])) (by rfl) rfl ?_ ?_
          · go_simp
            (try simp only [i64_w])
            try rfl
          refine hK.out _ _ ⟨K1, K2, g1, cap1, g2, cap2, m12_, m13_, m20_, m21_, (by rw [ha.out]; exact putSel_upk 19 hb_ rfl rfl rfl), Q_cG, Q_cL0, Q_cL1, Q_cM0, Q_cM1, Q_blk0, fun h0_ _ => absurd ((hoff 23 (by kernel_rfl)).symm.trans h0_) (by decide), fun h0_ => absurd ((hoff 25 (by kernel_rfl)).symm.trans h0_) (by decide), Q_R0, Q_R1, fun h0_ => absurd ((hoff 21 (by kernel_rfl)).symm.trans h0_) (by decide), Q_hK1, fun h0_ _ => absurd ((hoff 20 (by kernel_rfl)).symm.trans h0_) (by decide), Q_bel, Q_siz, Q_saf, Q_X12_, Q_X13_, fun h0_ => absurd ((hoff 20 (by kernel_rfl)).symm.trans h0_) (by decide), fun h0_ => absurd ((hoff 21 (by kernel_rfl)).symm.trans h0_) (by decide)⟩
        refine steps_cons ?_ ?_
        · rintro b a w' ⟨K1, K2, g1, cap1, g2, cap2, m12_, m13_, m20_, m21_, ha, Q_cG, Q_cL0, Q_cL1, Q_cM0, Q_cM1, Q_blk0, Q_blk1, Q_blk2, Q_R0, Q_R1, Q_R2, Q_hK1, Q_hK2, Q_bel, Q_siz, Q_saf, Q_X12_, Q_X13_, Q_X20_, Q_X21_⟩ hb_ hon hoff
          refine ⟨_, rfl, fun K hK => ?_⟩
          have e72 : a.tmps[72]? = some ((.agg #[(.int .i64 ka), (.int .i64 wt)])) := by rw [ha]; exact putSel_on (e := (19, 72, (.agg #[(.int .i64 ka), (.int .i64 wt)]))) 19 rfl rfl (hon 19 (by kernel_rfl)) rfl
          replace ha := Aside0.mk ha
          have cG := Aside0.mk Q_cG
          have cL0 := Aside0.mk Q_cL0
          have cL1 := Aside0.mk Q_cL1
          have cM0 := Aside0.mk Q_cM0
          have cM1 := Aside0.mk Q_cM1
          have blk0 := Aside0.mk (Q_blk0 (hoff 23 (by kernel_rfl)))
          have bel := Aside0.mk Q_bel
          have siz := Aside0.mk Q_siz
          have saf := Aside0.mk Q_saf
          refine value_ (w1 := w'.alloc (.cells #[(.int .i64 ka), (.int .i64 wt)] 60)) (v := .slice (some ⟨w'.heap.size, 0, none⟩) 1 1) (by rfl) rfl ?_ ?_
          · go_simp
            try rfl
          refine hK.out _ _ ⟨K1, w'.heap.size, g1, cap1, g2, cap2, m12_, m13_, ((.slice (some ⟨w'.heap.size, 0, none⟩) 1 1 : Value)), m21_, (by rw [ha.out]; exact putSel_upk 20 hb_ rfl rfl rfl), cell_a _ cG.out, cell_a _ cL0.out, cell_a _ cL1.out, cell_a _ cM0.out, cell_a _ cM1.out, fun _ => (Below.heap_alloc _ _ _ (blk_lt blk0.out)).trans blk0.out, fun h0_ _ => absurd ((hoff 23 (by kernel_rfl)).symm.trans h0_) (by decide), fun h0_ => absurd ((hoff 25 (by kernel_rfl)).symm.trans h0_) (by decide), fun h0_ => (Q_R0 h0_).alloc _, fun h0_ h1_ => (Q_R1 h0_ h1_).alloc _, fun h0_ => absurd ((hoff 21 (by kernel_rfl)).symm.trans h0_) (by decide), fun h0_ h1_ => ⟨(Q_hK1 h0_ h1_).1, (Below.heap_alloc _ _ _ (blk_lt (Q_hK1 h0_ h1_).2)).trans (Q_hK1 h0_ h1_).2⟩, fun _ _ => ⟨siz.out, heap_alloc_new _ _⟩, bel.out.alloc (Nat.le_trans hbW siz.out) _, Nat.le_trans siz.out (by simp), saf.out.alloc _, Q_X12_, Q_X13_, fun _ => rfl, fun h0_ => absurd ((hoff 21 (by kernel_rfl)).symm.trans h0_) (by decide)⟩
        refine steps_cons ?_ ?_
        · rintro b a w' ⟨K1, K2, g1, cap1, g2, cap2, m12_, m13_, m20_, m21_, ha, Q_cG, Q_cL0, Q_cL1, Q_cM0, Q_cM1, Q_blk0, Q_blk1, Q_blk2, Q_R0, Q_R1, Q_R2, Q_hK1, Q_hK2, Q_bel, Q_siz, Q_saf, Q_X12_, Q_X13_, Q_X20_, Q_X21_⟩ hb_ hon hoff
          refine ⟨_, rfl, fun K hK => ?_⟩
          have e71 : a.tmps[71]? = some (vb) := by rw [ha]; exact putSel_on (e := (18, 71, vb)) 18 rfl rfl (hon 18 (by kernel_rfl)) rfl
          have e73 : a.tmps[73]? = some (m20_) := by rw [ha]; exact putSel_on (e := (20, 73, m20_)) 20 rfl rfl (hon 20 (by kernel_rfl)) rfl
          rw [Q_X20_ (hon 20 (by kernel_rfl))] at e73
          replace ha := Aside0.mk ha
          have cG := Aside0.mk Q_cG
          have cL0 := Aside0.mk Q_cL0
          have cL1 := Aside0.mk Q_cL1
          have cM0 := Aside0.mk Q_cM0
          have cM1 := Aside0.mk Q_cM1
          have blk0 := Aside0.mk (Q_blk0 (hoff 23 (by kernel_rfl)))
          have R1 := Aside0.mk (Q_R1 (hon 13 (by kernel_rfl)) hb_)
          have hK2 := Aside0.mk (Q_hK2 (hon 20 (by kernel_rfl)) hb_)
          have bel := Aside0.mk Q_bel
          have siz := Aside0.mk Q_siz
          have saf := Aside0.mk Q_saf
          have HVB : Hid ((vs.set ka (.slice (some ⟨g1, 0, none⟩) (ra.length + 1) cap1 : Value))[kb]? = some vb) := by unfold Hid; rw [List.getElem?_set_ne hne1]; exact Hb.out
          have HRB2 : Hid ((rows.set ka (ra ++ [(⟨kb, wt⟩ : Link)]))[kb]? = some rb) := by unfold Hid; rw [List.getElem?_set_ne hne1]; exact HRb.out
          refine step_append_lies _ (by rfl) (.tmp 71) (.tmp 73) _ (by rfl) base 60 i0 _ 2 16 Try.underlying52 hi0 hz0 hz1 hz2 rfl (by omega) vb rb.length (lcells rb) (eval_of e71) (R1.out.own kb vb rb HVB.out HRB2.out) _ 1 1 [(.int .i64 ka), (.int .i64 wt)] (eval_of e73) (by rfl) (World.news_of_block (cs := #[(.int .i64 ka), (.int .i64 wt)]) hK2.out.2) (by simp [Value.oneCell']) (by omega) (by have := HLb.out; unfold maxLen; omega) (by have := HLb.out; omega) (Nat.le_trans hbW siz.out) _ (by rfl) ?_
          intro gn capn wn hown hgr hat hlt
          refine hK.out _ _ ⟨K1, K2, g1, cap1, gn, capn, m12_, m13_, m20_, ((.slice (some ⟨gn, 0, none⟩) (rb.length + 1) capn : Value)), (by rw [ha.out]; exact putSel_upk 21 hb_ rfl rfl rfl), hgr.cell cG.out NGb.out, hgr.cell cL0.out NLb.out, hgr.cell cL1.out NLb.out, hgr.cell cM0.out NMb.out, hgr.cell cM1.out NMb.out, fun _ => (hgr.block _ (blk_lt blk0.out) NPb.out).trans blk0.out, fun h0_ _ => absurd ((hoff 23 (by kernel_rfl)).symm.trans h0_) (by decide), fun h0_ => absurd ((hoff 25 (by kernel_rfl)).symm.trans h0_) (by decide), fun h0_ => absurd ((hon 13 (by kernel_rfl)).symm.trans h0_) (by decide), fun _ h1_ => absurd ((up_self b 21).symm.trans h1_) (by decide), fun _ => R1.out.upd HVB.out hgr (by simpa [lcells_append, lcells_one] using hown) (by simp) (.inr (by rcases hat with h | h; exact .inl h.symm; exact .inr ⟨gn, rfl, by rw [h]; exact Nat.le_refl _⟩)), fun _ h1_ => absurd ((hon 13 (by kernel_rfl)).symm.trans h1_) (by decide), fun _ h1_ => absurd ((up_self b 21).symm.trans h1_) (by decide), bel.out.grown hgr (Nat.le_trans hbW siz.out) HBb.out, Nat.le_trans siz.out hgr.size, saf.out.grown hgr (fun k hk => (own_typed (R1.out.own kb vb rb HVB.out HRB2.out) k hk).2), Q_X12_, Q_X13_, Q_X20_, fun _ => rfl⟩
        refine steps_cons ?_ ?_
        · rintro b a w' ⟨K1, K2, g1, cap1, g2, cap2, m12_, m13_, m20_, m21_, ha, Q_cG, Q_cL0, Q_cL1, Q_cM0, Q_cM1, Q_blk0, Q_blk1, Q_blk2, Q_R0, Q_R1, Q_R2, Q_hK1, Q_hK2, Q_bel, Q_siz, Q_saf, Q_X12_, Q_X13_, Q_X20_, Q_X21_⟩ hb_ hon hoff
          refine ⟨_, rfl, fun K hK => ?_⟩
          have e54 : a.tmps[54]? = some ((.slice (some ⟨P, 0, none⟩) rows.length rows.length)) := by rw [ha]; exact putSel_on (e := (1, 54, (.slice (some ⟨P, 0, none⟩) rows.length rows.length))) 1 rfl rfl (hon 1 (by kernel_rfl)) rfl
          have e55 : a.tmps[55]? = some ((.int .i64 ka)) := by rw [ha]; exact putSel_on (e := (2, 55, (.int .i64 ka))) 2 rfl rfl (hon 2 (by kernel_rfl)) rfl
          replace ha := Aside0.mk ha
          have cG := Aside0.mk Q_cG
          have cL0 := Aside0.mk Q_cL0
          have cL1 := Aside0.mk Q_cL1
          have cM0 := Aside0.mk Q_cM0
          have cM1 := Aside0.mk Q_cM1
          have blk0 := Aside0.mk (Q_blk0 (hoff 23 (by kernel_rfl)))
          have R2 := Aside0.mk (Q_R2 (hon 21 (by kernel_rfl)))
          have bel := Aside0.mk Q_bel
          have siz := Aside0.mk Q_siz
          have saf := Aside0.mk Q_saf
          refine value_ (w1 := w') (v := (.pointer (some ⟨P, ka, none⟩))) (by rfl) rfl ?_ ?_
          · go_simp
            (try simp only [i64_w])
            try rfl
          refine hK.out _ _ ⟨K1, K2, g1, cap1, g2, cap2, m12_, m13_, m20_, m21_, (by rw [ha.out]; exact putSel_upk 22 hb_ rfl rfl rfl), Q_cG, Q_cL0, Q_cL1, Q_cM0, Q_cM1, Q_blk0, fun h0_ _ => absurd ((hoff 23 (by kernel_rfl)).symm.trans h0_) (by decide), fun h0_ => absurd ((hoff 25 (by kernel_rfl)).symm.trans h0_) (by decide), fun h0_ => absurd ((hon 13 (by kernel_rfl)).symm.trans h0_) (by decide), fun _ h1_ => absurd ((hon 21 (by kernel_rfl)).symm.trans h1_) (by decide), Q_R2, fun _ h1_ => absurd ((hon 13 (by kernel_rfl)).symm.trans h1_) (by decide), fun _ h1_ => absurd ((hon 21 (by kernel_rfl)).symm.trans h1_) (by decide), Q_bel, Q_siz, Q_saf, Q_X12_, Q_X13_, Q_X20_, Q_X21_⟩
        refine steps_cons ?_ ?_
        · rintro b a w' ⟨K1, K2, g1, cap1, g2, cap2, m12_, m13_, m20_, m21_, ha, Q_cG, Q_cL0, Q_cL1, Q_cM0, Q_cM1, Q_blk0, Q_blk1, Q_blk2, Q_R0, Q_R1, Q_R2, Q_hK1, Q_hK2, Q_bel, Q_siz, Q_saf, Q_X12_, Q_X13_, Q_X20_, Q_X21_⟩ hb_ hon hoff
          refine ⟨_, rfl, fun K hK => ?_⟩
          have e75 : a.tmps[75]? = some ((.pointer (some ⟨P, ka, none⟩))) := by rw [ha]; exact putSel_on (e := (22, 75, (.pointer (some ⟨P, ka, none⟩)))) 22 rfl rfl (hon 22 (by kernel_rfl)) rfl
          have e66 : a.tmps[66]? = some (m13_) := by rw [ha]; exact putSel_on (e := (13, 66, m13_)) 13 rfl rfl (hon 13 (by kernel_rfl)) rfl
          rw [Q_X13_ (hon 13 (by kernel_rfl))] at e66
          replace ha := Aside0.mk ha
          have cG := Aside0.mk Q_cG
          have cL0 := Aside0.mk Q_cL0
          have cL1 := Aside0.mk Q_cL1
          have cM0 := Aside0.mk Q_cM0
          have cM1 := Aside0.mk Q_cM1
          have blk0 := Aside0.mk (Q_blk0 hb_)
          have R2 := Aside0.mk (Q_R2 (hon 21 (by kernel_rfl)))
          have bel := Aside0.mk Q_bel
          have siz := Aside0.mk Q_siz
          have saf := Aside0.mk Q_saf
          have q0 := port_cell blk0.out HA.out
          have q1 := blk_free ka blk0.out
          refine skip_ (w1 := w'.setCell ⟨P, ka, none⟩ (.slice (some ⟨g1, 0, none⟩) (ra.length + 1) cap1 : Value)) (by rfl) rfl ?_ ?_
          · go_simp
            try rfl
          refine hK.out _ _ ⟨K1, K2, g1, cap1, g2, cap2, m12_, m13_, m20_, m21_, (by rw [ha.out]; exact putSel_none (v := undef) rfl), cell_far cG.out (by simp; omega), cell_far cL0.out (by simp; omega), cell_far cL1.out (by simp; omega), cell_far cM0.out (by simp; omega), cell_far cM1.out (by simp; omega), fun h0_ => absurd ((up_self b 23).symm.trans h0_) (by decide), fun _ _ => port_set blk0.out haL, fun h0_ => absurd ((hoff 25 (by kernel_rfl)).symm.trans h0_) (by decide), fun h0_ => absurd ((hon 13 (by kernel_rfl)).symm.trans h0_) (by decide), fun _ h1_ => absurd ((hon 21 (by kernel_rfl)).symm.trans h1_) (by decide), fun _ => R2.out.store blk0.out, fun _ h1_ => absurd ((hon 13 (by kernel_rfl)).symm.trans h1_) (by decide), fun _ h1_ => absurd ((hon 21 (by kernel_rfl)).symm.trans h1_) (by decide), bel.out.setCell hPb _, Nat.le_trans siz.out (by simp [World.setCell]), saf.out.set blk0.out, Q_X12_, Q_X13_, Q_X20_, Q_X21_⟩
        refine steps_cons ?_ ?_
        · rintro b a w' ⟨K1, K2, g1, cap1, g2, cap2, m12_, m13_, m20_, m21_, ha, Q_cG, Q_cL0, Q_cL1, Q_cM0, Q_cM1, Q_blk0, Q_blk1, Q_blk2, Q_R0, Q_R1, Q_R2, Q_hK1, Q_hK2, Q_bel, Q_siz, Q_saf, Q_X12_, Q_X13_, Q_X20_, Q_X21_⟩ hb_ hon hoff
          refine ⟨_, rfl, fun K hK => ?_⟩
          have e57 : a.tmps[57]? = some ((.slice (some ⟨P, 0, none⟩) rows.length rows.length)) := by rw [ha]; exact putSel_on (e := (4, 57, (.slice (some ⟨P, 0, none⟩) rows.length rows.length))) 4 rfl rfl (hon 4 (by kernel_rfl)) rfl
          have e58 : a.tmps[58]? = some ((.int .i64 kb)) := by rw [ha]; exact putSel_on (e := (5, 58, (.int .i64 kb))) 5 rfl rfl (hon 5 (by kernel_rfl)) rfl
          replace ha := Aside0.mk ha
          have cG := Aside0.mk Q_cG
          have cL0 := Aside0.mk Q_cL0
          have cL1 := Aside0.mk Q_cL1
          have cM0 := Aside0.mk Q_cM0
          have cM1 := Aside0.mk Q_cM1
          have blk1 := Aside0.mk (Q_blk1 (hon 23 (by kernel_rfl)) (hoff 25 (by kernel_rfl)))
          have R2 := Aside0.mk (Q_R2 (hon 21 (by kernel_rfl)))
          have bel := Aside0.mk Q_bel
          have siz := Aside0.mk Q_siz
          have saf := Aside0.mk Q_saf
          refine value_ (w1 := w') (v := (.pointer (some ⟨P, kb, none⟩))) (by rfl) rfl ?_ ?_
          · go_simp
            (try simp only [i64_w])
            try rfl
          refine hK.out _ _ ⟨K1, K2, g1, cap1, g2, cap2, m12_, m13_, m20_, m21_, (by rw [ha.out]; exact putSel_upk 23 hb_ rfl rfl rfl), Q_cG, Q_cL0, Q_cL1, Q_cM0, Q_cM1, fun h0_ => absurd ((hon 23 (by kernel_rfl)).symm.trans h0_) (by decide), Q_blk1, fun h0_ => absurd ((hoff 25 (by kernel_rfl)).symm.trans h0_) (by decide), fun h0_ => absurd ((hon 13 (by kernel_rfl)).symm.trans h0_) (by decide), fun _ h1_ => absurd ((hon 21 (by kernel_rfl)).symm.trans h1_) (by decide), Q_R2, fun _ h1_ => absurd ((hon 13 (by kernel_rfl)).symm.trans h1_) (by decide), fun _ h1_ => absurd ((hon 21 (by kernel_rfl)).symm.trans h1_) (by decide), Q_bel, Q_siz, Q_saf, Q_X12_, Q_X13_, Q_X20_, Q_X21_⟩
        refine steps_cons ?_ ?_
        · rintro b a w' ⟨K1, K2, g1, cap1, g2, cap2, m12_, m13_, m20_, m21_, ha, Q_cG, Q_cL0, Q_cL1, Q_cM0, Q_cM1, Q_blk0, Q_blk1, Q_blk2, Q_R0, Q_R1, Q_R2, Q_hK1, Q_hK2, Q_bel, Q_siz, Q_saf, Q_X12_, Q_X13_, Q_X20_, Q_X21_⟩ hb_ hon hoff
          refine ⟨_, rfl, fun K hK => ?_⟩
          have e76 : a.tmps[76]? = some ((.pointer (some ⟨P, kb, none⟩))) := by rw [ha]; exact putSel_on (e := (24, 76, (.pointer (some ⟨P, kb, none⟩)))) 23 rfl rfl (hon 24 (by kernel_rfl)) rfl
          have e74 : a.tmps[74]? = some (m21_) := by rw [ha]; exact putSel_on (e := (21, 74, m21_)) 21 rfl rfl (hon 21 (by kernel_rfl)) rfl
          rw [Q_X21_ (hon 21 (by kernel_rfl))] at e74
          replace ha := Aside0.mk ha
          have cG := Aside0.mk Q_cG
          have cL0 := Aside0.mk Q_cL0
          have cL1 := Aside0.mk Q_cL1
          have cM0 := Aside0.mk Q_cM0
          have cM1 := Aside0.mk Q_cM1
          have blk1 := Aside0.mk (Q_blk1 (hon 23 (by kernel_rfl)) hb_)
          have R2 := Aside0.mk (Q_R2 (hon 21 (by kernel_rfl)))
          have bel := Aside0.mk Q_bel
          have siz := Aside0.mk Q_siz
          have saf := Aside0.mk Q_saf
          have HVB : Hid ((vs.set ka (.slice (some ⟨g1, 0, none⟩) (ra.length + 1) cap1 : Value))[kb]? = some vb) := by unfold Hid; rw [List.getElem?_set_ne hne1]; exact Hb.out
          have q0 := port_cell blk1.out HVB.out
          have q1 := blk_free kb blk1.out
          refine skip_ (w1 := w'.setCell ⟨P, kb, none⟩ (.slice (some ⟨g2, 0, none⟩) (rb.length + 1) cap2 : Value)) (by rfl) rfl ?_ ?_
          · go_simp
            try rfl
          refine hK.out _ _ ⟨K1, K2, g1, cap1, g2, cap2, m12_, m13_, m20_, m21_, (by rw [ha.out]; exact putSel_none (v := undef) rfl), cell_far cG.out (by simp; omega), cell_far cL0.out (by simp; omega), cell_far cL1.out (by simp; omega), cell_far cM0.out (by simp; omega), cell_far cM1.out (by simp; omega), fun h0_ => absurd ((hon 23 (by kernel_rfl)).symm.trans h0_) (by decide), fun _ h1_ => absurd ((up_self b 25).symm.trans h1_) (by decide), fun _ => port_set blk1.out (by simpa using hbL), fun h0_ => absurd ((hon 13 (by kernel_rfl)).symm.trans h0_) (by decide), fun _ h1_ => absurd ((hon 21 (by kernel_rfl)).symm.trans h1_) (by decide), fun _ => R2.out.store blk1.out, fun _ h1_ => absurd ((hon 13 (by kernel_rfl)).symm.trans h1_) (by decide), fun _ h1_ => absurd ((hon 21 (by kernel_rfl)).symm.trans h1_) (by decide), bel.out.setCell hPb _, Nat.le_trans siz.out (by simp [World.setCell]), saf.out.set blk1.out, Q_X12_, Q_X13_, Q_X20_, Q_X21_⟩
        exact steps_nil
      · rintro b a w' hall ⟨K1, K2, g1, cap1, g2, cap2, m12_, m13_, m20_, m21_, ha, Q_cG, Q_cL0, Q_cL1, Q_cM0, Q_cM1, Q_blk0, Q_blk1, Q_blk2, Q_R0, Q_R1, Q_R2, Q_hK1, Q_hK2, Q_bel, Q_siz, Q_saf, Q_X12_, Q_X13_, Q_X20_, Q_X21_⟩
        clear R0 bel blk0 cG cL0 cL1 cM0 cM1 saf siz
        have hb0_ := hall 0 (by kernel_rfl)
        have hb1_ := hall 1 (by kernel_rfl)
        have hb2_ := hall 2 (by kernel_rfl)
        have hb3_ := hall 3 (by kernel_rfl)
        have hb4_ := hall 4 (by kernel_rfl)
        have hb5_ := hall 5 (by kernel_rfl)
        have hb6_ := hall 6 (by kernel_rfl)
        have hb7_ := hall 7 (by kernel_rfl)
        have hb8_ := hall 8 (by kernel_rfl)
        have hb9_ := hall 9 (by kernel_rfl)
        have hb10_ := hall 10 (by kernel_rfl)
        have hb11_ := hall 11 (by kernel_rfl)
        have hb12_ := hall 12 (by kernel_rfl)
        have hb13_ := hall 13 (by kernel_rfl)
        have hb14_ := hall 14 (by kernel_rfl)
        have hb15_ := hall 15 (by kernel_rfl)
        have hb16_ := hall 16 (by kernel_rfl)
        have hb17_ := hall 17 (by kernel_rfl)
        have hb18_ := hall 18 (by kernel_rfl)
        have hb19_ := hall 19 (by kernel_rfl)
        have hb20_ := hall 20 (by kernel_rfl)
        have hb21_ := hall 21 (by kernel_rfl)
        have hb22_ := hall 22 (by kernel_rfl)
        have hb23_ := hall 23 (by kernel_rfl)
        have hb24_ := hall 24 (by kernel_rfl)
        have hb25_ := hall 25 (by kernel_rfl)
        subst ha
        obtain rfl := Q_X12_ hb12_
        obtain rfl := Q_X13_ hb13_
        obtain rfl := Q_X20_ hb20_
        obtain rfl := Q_X21_ hb21_
        simp only [putSel, hb0_, hb1_, hb2_, hb3_, hb4_, hb5_, hb6_, hb7_, hb8_, hb9_, hb10_, hb11_, hb12_, hb13_, hb14_, hb15_, hb16_, hb17_, hb18_, hb19_, hb20_, hb21_, hb22_, hb23_, hb24_, hb25_, if_true, Act.put, List.setIfInBounds_toArray, List.set_cons_zero, List.set_cons_succ]
        have cG := Aside0.mk Q_cG
        clear Q_cG
        have cL0 := Aside0.mk Q_cL0
        clear Q_cL0
        have cL1 := Aside0.mk Q_cL1
        clear Q_cL1
        have cM0 := Aside0.mk Q_cM0
        clear Q_cM0
        have cM1 := Aside0.mk Q_cM1
        clear Q_cM1
        clear Q_blk0
        clear Q_blk1
        have blk2 := Aside0.mk (Q_blk2 hb25_)
        clear Q_blk2
        clear Q_R0
        clear Q_R1
        have R2 := Aside0.mk (Q_R2 hb21_)
        clear Q_R2
        clear Q_hK1
        clear Q_hK2
        have bel := Aside0.mk Q_bel
        clear Q_bel
        have siz := Aside0.mk Q_siz
        clear Q_siz
        have saf := Aside0.mk Q_saf
        clear Q_saf
        clear hall hb0_ hb1_ hb2_ hb3_ hb4_ hb5_ hb6_ hb7_ hb8_ hb9_ hb10_ hb11_ hb12_ hb13_ hb14_ hb15_ hb16_ hb17_ hb18_ hb19_ hb20_ hb21_ hb22_ hb23_ hb24_ hb25_
        go_end0
        exact ⟨rfl, ⟨_, by rw [hE.out, HGa.out, HGb.out]; exact ⟨blk2.out, R2.out, hPb⟩⟩, HBW.out.trans bel.out, HSFW.out.trans saf.out⟩
end Go.Proofs.Ythapikakneikbaa
/-
 Rows of links that are made by adding links one by one: they make a valid graph. (No program in this text.)
-/
namespace Go.Proofs.Ythapikakneikbaa
open Go.RowKit
structure Good (n : Nat) (rows : List (List Link)) : Prop where
 len : rows.length = n
 rng : ∀ (a : Nat) r l, rows[a]? = some r → l ∈ r → 0 ≤ l.to_ ∧ l.to_ < n ∧ l.to_ ≠ a ∧ 1 ≤ l.wt ∧ l.wt ≤ 15
 nd : ∀ (a : Nat) r, rows[a]? = some r → (r.map Link.to_).Nodup
 sym : ∀ (a : Nat) r l, rows[a]? = some r → l ∈ r → ∃ r', rows[l.to_.toNat]? = some r' ∧ (⟨a, l.wt⟩ : Link) ∈ r'
theorem good_none (n : Nat) : Good n (List.replicate n []) := by
 have h : ∀ (a : Nat) r, (List.replicate n ([] : List Link))[a]? = some r → r = [] := fun a r h => by
  have := List.mem_of_getElem? h; simp at this; exact this.2
 refine ⟨by simp, ?_, ?_, ?_⟩
 ·
  intro a r l h1 h2; rw [h a r h1] at h2; cases h2
 ·
  intro a r h1; rw [h a r h1]; simp
 ·
  intro a r l h1 h2; rw [h a r h1] at h2; cases h2
theorem mem_addLink {back : Bool} {r : List Link} {x l : Link} : l ∈ addLink back r x ↔ l = x ∨ l ∈ r := by
 unfold addLink; cases back <;> simp [or_comm]
theorem nd_addLink {back : Bool} {r : List Link} {x : Link} (h : (r.map Link.to_).Nodup) (hx : ∀ l ∈ r, l.to_ ≠ x.to_) : ((addLink back r x).map Link.to_).Nodup := by
 unfold addLink
 cases back
 ·
  simp only [Bool.false_eq_true, if_false, List.map_append, List.map_cons, List.map_nil]
  rw [List.nodup_append]
  refine ⟨h, by simp, fun a ha b hb e => ?_⟩
  obtain ⟨l, hl, rfl⟩ := List.mem_map.1 ha
  rw [List.mem_singleton.1 hb] at e
  exact hx l hl e
 ·
  simp only [if_true, List.map_cons, List.nodup_cons]
  refine ⟨fun ha => ?_, h⟩
  obtain ⟨l, hl, e⟩ := List.mem_map.1 ha
  exact hx l hl e
theorem linked_false {rows : List (List Link)} {a : Nat} {b : Int} {r : List Link} (h : linkedB rows a b = false) (hr : rows[a]? = some r) : ∀ l ∈ r, l.to_ ≠ b := by
 intro l hl e
 unfold linkedB at h
 rw [List.getD_eq_getElem?_getD, hr] at h
 have := List.any_eq_false.1 h l hl
 simp [e] at this
theorem good_link {n : Nat} {rows : List (List Link)} (h : Good n rows) (back : Bool) {a b : Nat} {wt : Int} (ha : a < n) (hb : b < n) (hw : 1 ≤ wt ∧ wt ≤ 15) : Good n (linkRows back rows a b wt) := by
 unfold linkRows
 split
 ·
  exact h
 ·
  rename_i hc
  have hne : a ≠ b := fun e => hc (.inl e)
  have hlk : linkedB rows a b = false := by
   cases hx : linkedB rows a b with
   | true => exact absurd (.inr hx) hc
   | false => rfl
  obtain ⟨ra, hra⟩ : ∃ ra, rows[a]? = some ra := ⟨_, List.getElem?_eq_getElem (by rw [h.len]; exact ha)⟩
  obtain ⟨rb, hrb⟩ : ∃ rb, rows[b]? = some rb := ⟨_, List.getElem?_eq_getElem (by rw [h.len]; exact hb)⟩
  have ga : rows.getD a [] = ra := by rw [List.getD_eq_getElem?_getD, hra]; rfl
  have gb : rows.getD b [] = rb := by rw [List.getD_eq_getElem?_getD, hrb]; rfl
  rw [ga, gb]
  have la := linked_false hlk hra
  have lb : ∀ l ∈ rb, l.to_ ≠ (a : Int) := fun l hl e => by
   obtain ⟨r', h1, h2⟩ := h.sym b rb l hrb hl
   rw [e, Int.toNat_natCast, hra] at h1
   cases h1
   exact la _ h2 rfl
  generalize hR : (rows.set a (addLink back ra ⟨b, wt⟩)).set b (addLink back rb ⟨a, wt⟩) = R
  have hRa : R[a]? = some (addLink back ra ⟨b, wt⟩) := by
   rw [← hR, List.getElem?_set_ne (fun e => hne e.symm), List.getElem?_set_self (by rw [h.len]; exact ha)]
  have hRb : R[b]? = some (addLink back rb ⟨a, wt⟩) := by
   rw [← hR, List.getElem?_set_self (by rw [List.length_set, h.len]; exact hb)]
  have hRo : ∀ k, k ≠ a → k ≠ b → R[k]? = rows[k]? := fun k h1 h2 => by
   rw [← hR, List.getElem?_set_ne (fun e => h2 e.symm), List.getElem?_set_ne (fun e => h1 e.symm)]
  have hRl : R.length = n := by rw [← hR, List.length_set, List.length_set, h.len]
  -- every old link of a row lies in the new row
  have old : ∀ (k : Nat) r l, rows[k]? = some r → l ∈ r → ∃ r', R[k]? = some r' ∧ l ∈ r' := fun k r l h1 h2 => by
   by_cases e1 : k = a
   ·
    subst e1; rw [hra] at h1; cases h1; exact ⟨_, hRa, mem_addLink.2 (.inr h2)⟩
   ·
    by_cases e2 : k = b
    ·
     subst e2; rw [hrb] at h1; cases h1; exact ⟨_, hRb, mem_addLink.2 (.inr h2)⟩
    ·
     exact ⟨r, by rw [hRo k e1 e2, h1], h2⟩
  -- and what lies in the new row is old, or one of the two
  have new : ∀ (k : Nat) r l, R[k]? = some r → l ∈ r → (∃ r0, rows[k]? = some r0 ∧ l ∈ r0) ∨ (k = a ∧ l = ⟨b, wt⟩) ∨ (k = b ∧ l = ⟨a, wt⟩) := fun k r l h1 h2 => by
   by_cases e1 : k = a
   ·
    subst e1; rw [hRa] at h1; cases h1
    rcases mem_addLink.1 h2 with e | h2
    ·
     exact .inr (.inl ⟨rfl, e⟩)
    ·
     exact .inl ⟨ra, hra, h2⟩
   ·
    by_cases e2 : k = b
    ·
     subst e2; rw [hRb] at h1; cases h1
     rcases mem_addLink.1 h2 with e | h2
     ·
      exact .inr (.inr ⟨rfl, e⟩)
     ·
      exact .inl ⟨rb, hrb, h2⟩
    ·
     rw [hRo k e1 e2] at h1; exact .inl ⟨r, h1, h2⟩
  refine ⟨hRl, ?_, ?_, ?_⟩
  ·
   intro k r l h1 h2
   rcases new k r l h1 h2 with ⟨r0, h3, h4⟩ | ⟨rfl, rfl⟩ | ⟨rfl, rfl⟩
   ·
    exact h.rng k r0 l h3 h4
   ·
    exact ⟨by simp, by simp; omega, by simp; omega, hw.1, hw.2⟩
   ·
    exact ⟨by simp, by simp; omega, by simp; omega, hw.1, hw.2⟩
  ·
   intro k r h1
   by_cases e1 : k = a
   ·
    subst e1; rw [hRa] at h1; cases h1; exact nd_addLink (h.nd _ _ hra) la
   ·
    by_cases e2 : k = b
    ·
     subst e2; rw [hRb] at h1; cases h1; exact nd_addLink (h.nd _ _ hrb) lb
    ·
     rw [hRo k e1 e2] at h1; exact h.nd k r h1
  ·
   intro k r l h1 h2
   rcases new k r l h1 h2 with ⟨r0, h3, h4⟩ | ⟨rfl, rfl⟩ | ⟨rfl, rfl⟩
   ·
    obtain ⟨r', h5, h6⟩ := h.sym k r0 l h3 h4
    exact old _ r' _ h5 h6
   ·
    exact ⟨_, by simpa using hRb, mem_addLink.2 (.inl rfl)⟩
   ·
    exact ⟨_, by simpa using hRa, mem_addLink.2 (.inl rfl)⟩
theorem good_row {n : Nat} {rows : List (List Link)} (h : Good n rows) {r : List Link} (hr : r ∈ rows) : r.length ≤ n := by
 obtain ⟨a, ha, rfl⟩ := List.mem_iff_getElem.1 hr
 have h1 := h.nd a _ (List.getElem?_eq_getElem ha)
 have h2 := List.Nodup.length_le_of_subset h1 (l₂ := (List.range n).map (fun k : Nat => (k : Int))) fun x hx => by
  obtain ⟨l, hl, rfl⟩ := List.mem_map.1 hx
  obtain ⟨r0, r1, _⟩ := h.rng a _ l (List.getElem?_eq_getElem ha) hl
  exact List.mem_map.2 ⟨l.to_.toNat, List.mem_range.2 (by omega), by omega⟩
 simpa using h2
theorem mem_edges {ids : List Int} {rows : List (List Link)} {e : Edge} : e ∈ (⟨ids, rows⟩ : Graph).edges ↔ ∃ (k : Nat) (r : List Link), rows[k]? = some r ∧ e.fr = k ∧ (⟨e.to_, e.wt⟩ : Link) ∈ r := by
 unfold Graph.edges
 rw [mem_edgesFrom]
 simp
theorem keys_nodup {rows : List (List Link)} (h : ∀ (a : Nat) r, rows[a]? = some r → (r.map Link.to_).Nodup) (v : Int) : ((edgesFrom v rows).map Edge.key).Nodup := by
 induction rows generalizing v with
 | nil => simp [edgesFrom]
 | cons p r ih =>
  simp only [edgesFrom, List.map_append]
  rw [List.nodup_append]
  refine ⟨?_, ih (fun a r' hr => h (a + 1) r' (by simpa using hr)) (v + 1), ?_⟩
  ·
   have := h 0 p rfl
   unfold rowEdges
   rw [List.map_map]
   have e1 : (Edge.key ∘ fun l : Link => (⟨v, l.to_, l.wt⟩ : Edge)) = (fun x : Int => (v, x)) ∘ Link.to_ := by funext l; rfl
   rw [e1, ← List.map_map]
   rw [List.nodup_iff_pairwise_ne, List.pairwise_map]
   exact (List.nodup_iff_pairwise_ne.1 this).imp fun hne e => hne (by simpa using e)
  ·
   intro x hx y hy e
   obtain ⟨e1, h1, rfl⟩ := List.mem_map.1 hx
   obtain ⟨e2, h2, rfl⟩ := List.mem_map.1 hy
   unfold rowEdges at h1
   obtain ⟨l, _, rfl⟩ := List.mem_map.1 h1
   obtain ⟨k, ps, _, h3, _⟩ := mem_edgesFrom.1 h2
   have h4 : v = e2.fr := congrArg Prod.fst e
   omega
theorem good_valid {n : Nat} {rows : List (List Link)} {ids : List Int} (h : Good n rows) (h1 : 1 ≤ n) (h2 : n ≤ 24) (hl : ids.length = n) (hi : ∀ x ∈ ids, 0 ≤ x ∧ x < 256) (hn : ids.Nodup) : (⟨ids, rows⟩ : Graph).valid = true := by
 rw [valid_iff]
 refine ⟨⟨by simp [h.len, h1], by simp [h.len, h2], by simp [h.len, hl]⟩, fun x hx => ?_, hn, ?_, ?_, ?_⟩
 ·
  have := hi x hx
  simp [okID]; omega
 ·
  intro e he
  obtain ⟨k, r, h3, h4, h5⟩ := mem_edges.1 he
  obtain ⟨a1, a2, a3, a4, a5⟩ := h.rng k r _ h3 h5
  simp only at a1 a2 a3 a4 a5
  simp only [Edge.ok, h.len, decide_eq_true_eq]
  omega
 ·
  exact keys_nodup h.nd 0
 ·
  intro e he
  obtain ⟨k, r, h3, h4, h5⟩ := mem_edges.1 he
  obtain ⟨r', h6, h7⟩ := h.sym k r _ h3 h5
  obtain ⟨a1, _⟩ := h.rng k r _ h3 h5
  simp only at a1 h6 h7
  simp only [Edge.back, decide_eq_true_eq]
  refine mem_edges.2 ⟨e.to_.toNat, r', h6, by simp only; omega, ?_⟩
  rw [h4]
  exact h7
end Go.Proofs.Ythapikakneikbaa
/-
  selfstabworld.Net.Tree, more, Connected, Any.
-/
namespace Go.Proofs.Ythapikakneikbaa
open Go.RowKit
structure Net where
  N : Int
  links : List Int
  weights : List Int
  ids : List Int
  ap : Bool
  back : Bool
/-- The net's lists in memory. -/
structure Net.In (x : Net) (w : World) (AL AW AI : Option Addr) : Prop where
  hL : (Kd.int .i64).C w AL x.links
  hW : (Kd.int .i64).C w AW x.weights
  hI : (Kd.int .i64).C w AI x.ids
theorem Net.In.below {x : Net} {w w1 : World} {AL AW AI : Option Addr} (h : x.In w AL AW AI) (hb : Below w.heap.size w w1) : x.In w1 AL AW AI := ⟨Kd.C_below h.hL hb, Kd.C_below h.hW hb, Kd.C_below h.hI hb⟩
def treeRows (x : Net) (n : Nat) : Nat → List (List Link)
  | 0 => List.replicate n []
  | k + 1 => linkRows x.back (treeRows x n k) (within (at0 x.links k) (k + 1)).toNat (k + 1) (1 + within (at0 x.weights k) 15)
theorem tree_good (x : Net) (n k : Nat) (hk : k + 1 ≤ n) : Good n (treeRows x n k) := by
  induction k with
  | zero => exact good_none n
  | succ k ih =>
    have h1 := within_bd (v := at0 x.links k) (m := (k : Int) + 1) (by omega)
    have h2 := within_bd (v := at0 x.weights k) (m := 15) (by omega)
    exact good_link (ih (by omega)) _ (by omega) (by omega) (by omega)
/-- What a function that makes a graph leaves: the graph's rows are the call's own. -/
def Made (B : Nat) (ids : List Int) (rows : List (List Link)) (w w' : World) (e : Ending) : Prop :=
  ∃ A c P vs, e = .returned (.agg #[.slice A ids.length c, .slice (some ⟨P, 0, none⟩) rows.length rows.length]) ∧ ids.length ≤ c ∧ w'.ownsRow B 3 1 (.slice A ids.length c) ids.length (icells ids) ∧ PortsAt w' B P vs rows ∧ Below w.heap.size w w'
theorem own_base {w : World} {base B : Nat} {e : TypeId} {size n : Nat} {v : Value} {xs : List Value} (h : w.ownsRow base e size v n xs) (hb : B ≤ base) : w.ownsRow B e size v n xs := by
  rcases h with ⟨h1, h2 | ⟨g, cap, cur, h3, h4, h5⟩⟩
  · exact ⟨h1, .inl h2⟩
  · exact ⟨h1, .inr ⟨g, cap, cur, h3, by omega, h5⟩⟩
theorem PortsAt.base {w : World} {base B P : Nat} {vs : List Value} {rows : List (List Link)} (h : PortsAt w base P vs rows) (hb : B ≤ base) : PortsAt w B P vs rows :=
  ⟨h.blk, ⟨h.rows.len, fun u v ps h1 h2 => own_base (h.rows.own u v ps h1 h2) hb, h.rows.apart, h.rows.nil⟩, by have := h.hP; omega⟩
theorem own_spared {w w1 : World} {base : Nat} {n : Nat} {v : Value} {xs : List Value} (h : w.ownsRow base 3 1 v n xs) (hs : Spared w w1) : w1.ownsRow base 3 1 v n xs := by
  rcases h with ⟨h1, h2 | ⟨g, cap, cur, h3, h4, h5, h6⟩⟩
  · exact ⟨h1, .inl h2⟩
  · exact ⟨h1, .inr ⟨g, cap, cur, h3, h4, hs g cur _ h5 (by decide) (by decide), h6⟩⟩
/-- A store into a block of another kind. -/
theorem PortsAt.setNil {w : World} {base P : Nat} {vs : List Value} {rows : List (List Link)} {p : Addr} {u : Value} {cs : Array Value} {T : TypeId} (h : PortsAt w base P vs rows) (hb : w.heap[p.block]? = some (.cells cs T (0, 0))) (h1 : T ≠ 60) (h2 : T ≠ 52) : PortsAt (w.setCell p u) base P vs rows := by
  refine ⟨blk_far h.blk fun e => ?_, h.rows.keep (grown_set w p u) fun v hv => .inr fun e => ?_, h.hP⟩
  · rw [← e, h.blk] at hb
    injection hb with hb
    injection hb with _ hb
    exact h2 hb.symm
  · obtain ⟨k, hk, rfl⟩ := List.mem_iff_getElem.1 hv
    obtain ⟨_, cells, hc⟩ := own_typed (h.rows.own k _ _ (List.getElem?_eq_getElem hk) (List.getElem?_eq_getElem (by rw [← h.rows.len]; exact hk))) p.block e
    rw [hb] at hc
    injection hc with hc
    injection hc with _ hc
    exact h1 hc
/-- What holds at the head of Tree's loop. -/
structure TreeAt (w wr : World) (cX : Array Value) (G B P n : Nat) (vI : Value) (ids : List Int) (rows : List (List Link)) : Prop where
  bX : wr.heap[w.heap.size]? = some (.cells cX 24 (0, 0))
  bR : wr.heap[w.heap.size + 1]? = some (.cells #[nilRow, nilRow] 27 (0, 0))
  bG : wr.heap[G]? = some (.cells #[vI, .slice (some ⟨P, 0, none⟩) n n] 27 (0, 0))
  len : rows.length = n
  own : wr.ownsRow B 3 1 vI n (icells ids)
  pa : ∃ vs, PortsAt wr B P vs rows
  bel : Below w.heap.size w wr
theorem TreeAt.step {w wr w5 : World} {cX : Array Value} {G B P n : Nat} {vI : Value} {ids : List Int} {rows rows' : List (List Link)} {vs' : List Value} (h : TreeAt w wr cX G B P n vI ids rows) (hB : w.heap.size ≤ B) (hl : rows'.length = n)
    (hpa : PortsAt w5 B P vs' rows') (hb : Below B wr.drew w5) (hs : Spared wr.drew w5) : TreeAt w w5 cX G B P n vI ids rows' :=
  ⟨hs _ _ _ h.bX (by decide) (by decide), hs _ _ _ h.bR (by decide) (by decide), hs _ _ _ h.bG (by decide) (by decide), hl, own_spared (w := wr.drew) h.own hs, ⟨vs', hpa⟩, h.bel.trans ⟨hb.os, hb.tape, hb.output, hb.size, fun k hk => hb.block k (by omega)⟩⟩
theorem link_n (w : World) (N : Int) (vL vW vI : Value) (ap back : Bool) (v0 : Value) (base P : Nat) (n : Nat) (vs : List Value) (rows : List (List Link)) (hp : PortsAt w base P vs rows) (hl : rows.length = n) (hbase : base ≤ w.heap.size)
    (hn : n ≤ 24) (hg : Good n rows) (ka kb : Nat) (ha : ka < n) (hb : kb < n) (wt : Int) :
    Calls Try.prog 115 #[.agg #[.int .i64 N, vL, vW, vI, .bool ap, .bool back], .agg #[v0, .slice (some ⟨P, 0, none⟩) n n], .int .i64 ka, .int .i64 kb, .int .i64 wt] w
      fun e w' => LinkPost base P (linkRows back rows ka kb wt) w w' e := by
  subst hl
  exact link_calls w N vL vW vI ap back v0 base P vs rows hp hbase hn (fun r hr => by have := good_row hg hr; omega) ka kb ha hb wt
set_option maxHeartbeats 4000000 in
set_option maxRecDepth 100000 in
theorem tree_calls (w : World) (x : Net) (AL AW AI : Option Addr) (cL cW cI : Nat) (hx : x.In w AL AW AI) (most : Int) (hm1 : 1 ≤ most) (hm2 : most ≤ 24) :
    Calls Try.prog 77 #[.agg #[.int .i64 x.N, .slice AL x.links.length cL, .slice AW x.weights.length cW, .slice AI x.ids.length cI, .bool x.ap, .bool x.back], .int .i64 most] w
      (fun e w' => Made w.heap.size (nodeIds x.ids (nodeCount x.N most)) (treeRows x (nodeCount x.N most) (nodeCount x.N most - 1)) w w' e) := by
  obtain ⟨hn1, hn2, hn3⟩ := nodeCount_bd (N := x.N) hm1
  have HX := Lib.hid hx
  clear hn3
  go_enter Try.func77, Try.ntmps77
  go_wp2_with fail
  have hb0 := ((Below.refl w.heap.size w).alloc (Nat.le_refl _) (.cells #[.int .i64 x.N, .slice AL x.links.length cL, .slice AW x.weights.length cW, .slice AI x.ids.length cI, .bool x.ap, .bool x.back] 24)).alloc (by simp) (.cells #[nilRow, nilRow] 27)
  refine (nodes_calls _ _ _ _ _ _ _ (Kd.C_below hx.hI hb0) _ _ _ hm1 (by omega)).mono ?_
  rintro e w1 ⟨vI, P, rfl, hown, hpa, hb1⟩
  have hzq := hb1.size
  simp only [World.size_alloc] at hzq hown hpa
  have hl := nodeIds_length x.ids (nodeCount x.N most)
  obtain ⟨A1, c1, hvI, hl1, _⟩ := ints_reads (xs := nodeIds x.ids (nodeCount x.N most)) (by rw [hl]; exact hown)
  rw [hl] at hl1 hvI
  subst hvI
  have hT0 : TreeAt w (w1.alloc (.cells #[.slice A1 (nodeCount x.N most) c1, .slice (some ⟨P, 0, none⟩) (nodeCount x.N most) (nodeCount x.N most)] 27)) #[.int .i64 x.N, .slice AL x.links.length cL, .slice AW x.weights.length cW, .slice AI x.ids.length cI, .bool x.ap, .bool x.back]
      w1.heap.size (w.heap.size + 1 + 1) P (nodeCount x.N most) (.slice A1 (nodeCount x.N most) c1) (nodeIds x.ids (nodeCount x.N most)) (treeRows x (nodeCount x.N most) 0) := by
    refine ⟨?_, ?_, blk_new rfl, by simp [treeRows], hown.alloc _, ⟨_, hpa.alloc _⟩, ?_⟩
    · exact blk_alloc (blk_below (blk_alloc (blk_new rfl) _) hb1) _
    · exact blk_alloc (blk_below (blk_new (by simp)) hb1) _
    · exact (hb0.trans (hb1.mono (by simp; omega))).alloc (by omega) _
  have HT0 := Lib.hid hT0
  have HGX : Hid (w.heap.size + 1 < w1.heap.size) := by unfold Hid; omega
  clear hb0 hown hpa hb1 hT0 hzq hx hl
  generalize hnn : nodeCount x.N most = n at hn1 hn2 hl1 HT0
  have HNN := Lib.hid hnn
  clear hnn
  go_wp2_with fail
  generalize w1.heap.size = G at HT0 HGX ⊢
  go_loopw [6] (fun i wr => ∃ (k : Nat), k + 1 ≤ n ∧ i = .int .i64 (k + 1 : Nat) ∧ TreeAt w wr #[.int .i64 x.N, .slice AL x.links.length cL, .slice AW x.weights.length cW, .slice AI x.ids.length cI, .bool x.ap, .bool x.back] G (w.heap.size + 1 + 1) P n (.slice A1 n c1) (nodeIds x.ids n) (treeRows x n k)) (fun i _ => n - (intOf i).toNat)
  case atStart => exact ⟨0, hn1, rfl, HT0.out⟩
  case round =>
    obtain ⟨k, hk, rfl, hT⟩ := hrel
    have HT := Lib.hid hT
    clear hT HT0
    have cG0 := blk_cell (j := 0) (v := .slice A1 n c1) HT.out.bG rfl
    have cG1 := blk_cell (j := 1) (v := .slice (some ⟨P, 0, none⟩) n n) HT.out.bG rfl
    by_cases hk2 : k + 1 < n
    · have cX0 := blk_cell (j := 0) (v := .int .i64 x.N) HT.out.bX rfl
      have cX1 := blk_cell (j := 1) (v := .slice AL x.links.length cL) HT.out.bX rfl
      have cX2 := blk_cell (j := 2) (v := .slice AW x.weights.length cW) HT.out.bX rfl
      have cX3 := blk_cell (j := 3) (v := .slice AI x.ids.length cI) HT.out.bX rfl
      have cX4 := blk_cell (j := 4) (v := .bool x.ap) HT.out.bX rfl
      have cX5 := blk_cell (j := 5) (v := .bool x.back) HT.out.bX rfl
      have HXw := Lib.hid (HX.out.below HT.out.bel)
      have h1 := within_bd (v := at0 x.links k) (m := (k : Int) + 1) (by omega)
      have h2 := within_bd (v := at0 x.weights k) (m := 15) (by omega)
      obtain ⟨la, hla⟩ : ∃ la, at0 x.links (k : Int) = la := ⟨_, rfl⟩
      obtain ⟨lb, hlb⟩ : ∃ lb, at0 x.weights (k : Int) = lb := ⟨_, rfl⟩
      have HLA := Lib.hid hla
      have HLB := Lib.hid hlb
      rw [hla] at h1
      rw [hlb] at h2
      clear hla hlb
      obtain ⟨ka, hka⟩ : ∃ ka : Nat, within la ((k : Int) + 1) = ka := ⟨_, (Int.toNat_of_nonneg h1.1).symm⟩
      have HKA := Lib.hid hka
      have hka2 : ka < k + 1 := by omega
      obtain ⟨wt, hwt⟩ : ∃ wt : Int, within lb 15 = wt := ⟨_, rfl⟩
      have HWT := Lib.hid hwt
      rw [hwt] at h2
      obtain ⟨vs, hpa⟩ := HT.out.pa
      have HPA := Lib.hid hpa
      have HXd : Hid (x.In wr.drew AL AW AI) := ⟨Kd.C_keep HXw.out.hL fun _ _ => rfl, Kd.C_keep HXw.out.hW fun _ _ => rfl, Kd.C_keep HXw.out.hI fun _ _ => rfl⟩
      have HPD : Hid (PortsAt wr.drew (w.heap.size + 1 + 1) P vs (treeRows x n k)) := ⟨HPA.out.blk, HPA.out.rows.drew, HPA.out.hP⟩
      have HG := Lib.hid (tree_good x n k (by omega))
      have HG2 := Lib.hid (tree_good x n (k + 1) (by omega))
      have HE : Hid (linkRows x.back (treeRows x n k) ka (k + 1) (1 + wt) = treeRows x n (k + 1)) := by
        unfold Hid
        rw [treeRows, HLA.out, HLB.out, HKA.out, HWT.out, Int.toNat_natCast]
      have HLS : Hid (w.heap.size + 1 + 1 ≤ wr.drew.heap.size) := by
        have := HPA.out.hP; have := blk_lt HPA.out.blk
        unfold Hid; simp; omega
      have hn24 : n ≤ 24 := by omega
      clear hka hwt h1 hpa
      go_wp2_with fail
      have hk0 : (0 : Int) ≤ (k : Int) := by omega
      have hk3 : (k : Int) + 1 ≤ 100000 := by omega
      have q1 : IntKind.i64.wrap (k : Int) = k := IntWalk.i64_in _ (by omega)
      have q2 : IntKind.i64.wrap (1 + wt) = 1 + wt := IntWalk.i64_in _ (by omega)
      have hka3 : ka < n := by omega
      go_region_held3 (fun w' => w'.cell? ⟨w.heap.size, 0, none⟩ = some (.int .i64 x.N) ∧ w'.cell? ⟨w.heap.size, 1, none⟩ = some (.slice AL x.links.length cL) ∧ w'.cell? ⟨w.heap.size, 2, none⟩ = some (.slice AW x.weights.length cW) ∧
          w'.cell? ⟨w.heap.size, 3, none⟩ = some (.slice AI x.ids.length cI) ∧ w'.cell? ⟨w.heap.size, 4, none⟩ = some (.bool x.ap) ∧ w'.cell? ⟨w.heap.size, 5, none⟩ = some (.bool x.back) ∧
          w'.cell? ⟨G, 0, none⟩ = some (.slice A1 n c1) ∧ w'.cell? ⟨G, 1, none⟩ = some (.slice (some ⟨P, 0, none⟩) n n))
        (first | exact ⟨cX0, cX1, cX2, cX3, cX4, cX5, cG0, cG1⟩ | exact ⟨d0, d1, d2, d3, d4, d5, g0, g1⟩)
        (first
          | (go_at_call 71; refine (at_calls _ _ _ _ ?_ _ hk0).mono ?_; (first | exact HXd.out.hL | exact HXd.out.hW); rintro e w3 ⟨rfl, rfl⟩; (first | rw [HLA.out] | rw [HLB.out]))
          | (go_at_call 70; refine (within_calls _ _ _ ?_).mono ?_; (first | decide | exact hk3); rintro e w3 ⟨rfl, rfl⟩; (first | rw [HKA.out] | rw [HWT.out]))
          | (go_at_call 115
             refine (link_n _ _ _ _ _ _ _ _ _ _ n _ _ HPD.out HG.out.len HLS.out hn24 HG.out ka (k + 1) hka3 hk2 _).mono ?_
             rintro e w5 ⟨rfl, ⟨vs5, hpa5⟩, hb5, hs5⟩
             rw [HE.out] at hpa5
             have HT5 := Lib.hid (HT.out.step (Nat.le_add_right _ 2) HG2.out.len hpa5 hb5 hs5)
             have d0 := blk_cell (j := 0) (v := .int .i64 x.N) HT5.out.bX rfl
             have d1 := blk_cell (j := 1) (v := .slice AL x.links.length cL) HT5.out.bX rfl
             have d2 := blk_cell (j := 2) (v := .slice AW x.weights.length cW) HT5.out.bX rfl
             have d3 := blk_cell (j := 3) (v := .slice AI x.ids.length cI) HT5.out.bX rfl
             have d4 := blk_cell (j := 4) (v := .bool x.ap) HT5.out.bX rfl
             have d5 := blk_cell (j := 5) (v := .bool x.back) HT5.out.bX rfl
             have g0 := blk_cell (j := 0) (v := .slice A1 n c1) HT5.out.bG rfl
             have g1 := blk_cell (j := 1) (v := .slice (some ⟨P, 0, none⟩) n n) HT5.out.bG rfl
             clear hpa5 hb5 hs5))
      clear q1 q2 d0 d1 d2 d3 d4 d5 g0 g1
      go_wp2_with fail
      go_roundw
      case rel => exact ⟨k + 1, by omega, by go_num, HT5.out⟩
      case measure => simp [intOf]; omega
    · have cR0 := blk_cell (j := 0) (v := nilRow) HT.out.bR rfl
      have cR1 := blk_cell (j := 1) (v := nilRow) HT.out.bR rfl
      have fR0 := blk_free 0 HT.out.bR
      have fR1 := blk_free 1 HT.out.bR
      have HKN : Hid (k = n - 1) := by unfold Hid; omega
      go_wp2_with fail
      refine bodyPost_ret (v := .agg #[.slice A1 n c1, .slice (some ⟨P, 0, none⟩) n n]) (by simp [results, Try.results77, go_sem, cR0, cR1]) rfl ?_
      rw [HNN.out, ← HKN.out]
      have hl : (nodeIds x.ids n).length = n := nodeIds_length x.ids n
      have hb1 := blk_set 0 (.slice A1 n c1) HT.out.bR (by simp)
      have ho1 := own_keep HT.out.own (grown_set wr ⟨w.heap.size + 1, 0, none⟩ (.slice A1 n c1)) (fun k hk => by cases hk; exact own_ne HT.out.own HT.out.bR (by decide))
      have ho2 := own_keep ho1 (grown_set _ ⟨w.heap.size + 1, 1, none⟩ (.slice (some ⟨P, 0, none⟩) n n)) (fun k hk => by cases hk; exact own_ne ho1 hb1 (by decide))
      obtain ⟨vs, hpa⟩ := HT.out.pa
      have hp1 := hpa.setNil (p := ⟨w.heap.size + 1, 0, none⟩) (u := .slice A1 n c1) HT.out.bR (by decide) (by decide)
      have hp2 := hp1.setNil (p := ⟨w.heap.size + 1, 1, none⟩) (u := .slice (some ⟨P, 0, none⟩) n n) hb1 (by decide) (by decide)
      exact ⟨A1, c1, P, vs, by rw [hl, HT.out.len], by rw [hl]; exact hl1, by rw [hl]; exact own_base ho2 (by omega), hp2.base (by omega), (HT.out.bel.setCell (by simp) _).setCell (by simp) _⟩
end Go.Proofs.Ythapikakneikbaa
/-
  selfstabworld.Net.more, Connected, Any.
-/
namespace Go.Proofs.Ythapikakneikbaa
open Go.RowKit
/-- What holds at the head of the loop of more. -/
structure MoreAt (w wr : World) (cX cG : Array Value) (B P n : Nat) (rows : List (List Link)) : Prop where
  bX : wr.heap[w.heap.size]? = some (.cells cX 24 (0, 0))
  bG : wr.heap[w.heap.size + 1]? = some (.cells cG 27 (0, 0))
  bR : wr.heap[w.heap.size + 2]? = some (.cells #[nilRow, nilRow] 27 (0, 0))
  len : rows.length = n
  pa : ∃ vs, PortsAt wr B P vs rows
  bel : Below B w wr
  sp : Spared w wr
theorem MoreAt.step {w wr w5 : World} {cX cG : Array Value} {B P n : Nat} {rows rows' : List (List Link)} {vs' : List Value} (h : MoreAt w wr cX cG B P n rows) (hl : rows'.length = n)
    (hpa : PortsAt w5 B P vs' rows') (hb : Below B wr.drew w5) (hs : Spared wr.drew w5) : MoreAt w w5 cX cG B P n rows' :=
  ⟨hs _ _ _ h.bX (by decide) (by decide), hs _ _ _ h.bG (by decide) (by decide), hs _ _ _ h.bR (by decide) (by decide), hl, ⟨vs', hpa⟩, h.bel.trans ⟨hb.os, hb.tape, hb.output, hb.size, hb.block⟩, h.sp.drew.trans hs⟩
end Go.Proofs.Ythapikakneikbaa
/-
  selfstabworld.Net.Connected, Any.
-/
namespace Go.Proofs.Ythapikakneikbaa
open Go.RowKit
def Net.n (x : Net) (most : Int) : Nat := nodeCount x.N most
def Net.treeG (x : Net) (most : Int) : Graph := ⟨nodeIds x.ids (x.n most), treeRows x (x.n most) (x.n most - 1)⟩
section
variable (x : Net) {most : Int}
theorem Net.n_bd (hm : 1 ≤ most) : 1 ≤ x.n most ∧ (x.n most : Int) ≤ most := ⟨(nodeCount_bd hm).1, (nodeCount_bd hm).2.1⟩
theorem Net.tree_g (hm : 1 ≤ most) : Good (x.n most) (x.treeG most).ports := tree_good x _ _ (by have := x.n_bd hm; omega)
end
theorem below_drew {B : Nat} {w W : World} (h : Below B w W) : Below B w W.drew := ⟨h.os, h.tape, h.output, h.size, h.block⟩
theorem Net.In.drew {x : Net} {w : World} {AL AW AI : Option Addr} (h : x.In w AL AW AI) : x.In w.drew AL AW AI := ⟨Kd.C_keep h.hL fun _ _ => rfl, Kd.C_keep h.hW fun _ _ => rfl, Kd.C_keep h.hI fun _ _ => rfl⟩
theorem Net.In.alloc {x : Net} {w : World} {AL AW AI : Option Addr} (h : x.In w AL AW AI) (o : Obj) : x.In (w.alloc o) AL AW AI := h.below ((Below.refl _ _).alloc (Nat.le_refl _) o)
/-- What a function that makes a graph of n nodes leaves: the graph's rows are the call's own. -/
def MadeN (B n : Nat) (g : Graph) (w w' : World) (e : Ending) : Prop :=
  ∃ A c P vs, e = .returned (.agg #[.slice A n c, .slice (some ⟨P, 0, none⟩) n n]) ∧ (n ≤ c ∧ g.ids.length = n ∧ g.ports.length = n) ∧ w'.ownsRow B 3 1 (.slice A n c) n (icells g.ids) ∧ PortsAt w' B P vs g.ports ∧ Below w.heap.size w w'
theorem tree_n (w : World) (x : Net) (AL AW AI : Option Addr) (cL cW cI : Nat) (hx : x.In w AL AW AI) (most : Int) (hm1 : 1 ≤ most) (hm2 : most ≤ 24) :
    Calls Try.prog 77 #[.agg #[.int .i64 x.N, .slice AL x.links.length cL, .slice AW x.weights.length cW, .slice AI x.ids.length cI, .bool x.ap, .bool x.back], .int .i64 most] w
      (fun e w' => MadeN w.heap.size (x.n most) (x.treeG most) w w' e) := by
  refine (tree_calls w x AL AW AI cL cW cI hx most hm1 hm2).mono ?_
  rintro e w' ⟨A, c, P, vs, rfl, hc, ho, hp, hb⟩
  have h1 : (nodeIds x.ids (nodeCount x.N most)).length = x.n most := nodeIds_length _ _
  have h2 : (treeRows x (nodeCount x.N most) (nodeCount x.N most - 1)).length = x.n most := (x.tree_g hm1).len
  rw [h1] at hc ho
  exact ⟨A, c, P, vs, by rw [h1, h2], ⟨hc, h1, h2⟩, ho, hp, hb⟩
end Go.Proofs.Ythapikakneikbaa
/-
  selfstabworld.Config: a configuration of variables, made of numbers.
-/
namespace Go.Proofs.Ythapikakneikbaa
open Go.RowKit
structure Var where
  name : ByteArray
  kind : Int
  lo : Int
  hi : Int
  pn : Int
  pid : Int
def kVar : Kd Var where
  sz := 6
  K := fun _ x cs => cs = [.string x.name, .int .i64 x.kind, .int .i64 x.lo, .int .i64 x.hi, .int .i64 x.pn, .int .i64 x.pid]
  len := fun h => by rw [h]; rfl
  one := fun h u hu => by
    rw [h] at hu
    simp only [List.mem_cons, List.not_mem_nil, or_false] at hu
    rcases hu with rfl | rfl | rfl | rfl | rfl | rfl <;> rfl
  keep := fun _ h => h
theorem at_var {w : World} {A : Option Addr} {xs : List Var} (h : kVar.C w A xs) (j : Nat) (hj : j < xs.length) : ∃ ad, A = some ad ∧ w.cell? ⟨(ad.add (j * 6)).block, (ad.add (j * 6)).off + 1, none⟩ = some (.int .i64 xs[j].kind) ∧
    w.cell? ⟨(ad.add (j * 6)).block, (ad.add (j * 6)).off + 2, none⟩ = some (.int .i64 xs[j].lo) ∧ w.cell? ⟨(ad.add (j * 6)).block, (ad.add (j * 6)).off + 3, none⟩ = some (.int .i64 xs[j].hi) ∧
    w.cell? ⟨(ad.add (j * 6)).block, (ad.add (j * 6)).off + 4, none⟩ = some (.int .i64 xs[j].pn) ∧ w.cell? ⟨(ad.add (j * 6)).block, (ad.add (j * 6)).off + 5, none⟩ = some (.int .i64 xs[j].pid) := by
  obtain ⟨ad, c, e, hK, hc⟩ := Kd.C_at h j hj
  obtain rfl := hK
  refine ⟨ad, e, ?_, ?_, ?_, ?_, ?_⟩
  · rw [← add_field _ _ 1 (by omega)]; exact hc 1 _ rfl
  · rw [← add_field _ _ 2 (by omega)]; exact hc 2 _ rfl
  · rw [← add_field _ _ 3 (by omega)]; exact hc 3 _ rfl
  · rw [← add_field _ _ 4 (by omega)]; exact hc 4 _ rfl
  · rw [← add_field _ _ 5 (by omega)]; exact hc 5 _ rfl
def topOf (ids : List Int) : Int := ids.foldl max 0
def Var.lo' (v : Var) : Int := if v.kind = 2 then 0 else if v.kind = 3 then -1 else v.lo
def Var.hi' (v : Var) (n : Nat) (top : Int) (deg : Nat) : Int := if v.kind = 2 then 1 else if v.kind = 3 then (deg : Int) - 1 else v.hi + v.pn * n + v.pid * top
/-- Numbers so small that nothing wraps. -/
structure Var.Small (v : Var) : Prop where
  lo : -1000 ≤ v.lo ∧ v.lo ≤ 1000
  hi : -1000 ≤ v.hi ∧ v.hi ≤ 1000
  pn : 0 ≤ v.pn ∧ v.pn ≤ 100
  pid : 0 ≤ v.pid ∧ v.pid ≤ 100
theorem topOf_bd {ids : List Int} (h : ∀ x ∈ ids, 0 ≤ x ∧ x ≤ 255) : 0 ≤ topOf ids ∧ topOf ids ≤ 255 := by
  suffices H : ∀ (l : List Int) (a : Int), (∀ x ∈ l, 0 ≤ x ∧ x ≤ 255) → 0 ≤ a ∧ a ≤ 255 → 0 ≤ l.foldl max a ∧ l.foldl max a ≤ 255 from H ids 0 h (by omega)
  intro l
  induction l with
  | nil => intro a _ h; exact h
  | cons x r ih =>
    intro a h1 h2
    have hx := h1 x (by simp)
    exact ih (max a x) (fun y hy => h1 y (by simp [hy])) (by omega)
theorem topOf_take {ids : List Int} {k : Nat} (hk : k < ids.length) : topOf (ids.take (k + 1)) = max (topOf (ids.take k)) ids[k] := by
  unfold topOf
  rw [List.take_succ_eq_append_getElem hk, List.foldl_append]
  rfl
/-- The rows that have been made lie in blocks of the call's own. -/
structure ConfAt (w wr : World) (cG : Array Value) (B : Nat) (vO : Value) (k : Nat) (xs : List Value) (c : Conf) : Prop where
  bG : wr.heap[w.heap.size]? = some (.cells cG 27 (0, 0))
  own : wr.ownsRow B 22 1 vO k xs
  rows : ∀ (j : Nat) v r, xs[j]? = some v → c[j]? = some r → wr.ownsRow B 3 1 v r.length (icells r)
  len : c.length = k
  bel : Below w.heap.size w wr
theorem own_below {w w1 : World} {base : Nat} {e : TypeId} {size n : Nat} {v : Value} {xs : List Value} (h : w.ownsRow base e size v n xs) (hb : Below w.heap.size w w1) : w1.ownsRow base e size v n xs := by
  rcases h with ⟨h1, h2 | ⟨g, cap, cur, h3, h4, h5, h6⟩⟩
  · exact ⟨h1, .inl h2⟩
  · exact ⟨h1, .inr ⟨g, cap, cur, h3, h4, blk_below h5 hb, h6⟩⟩
theorem ConfAt.step {w wv wq w5 : World} {cG : Array Value} {B m : Nat} {vO v2 vL : Value} {k : Nat} {xs : List Value} {c : Conf} {r : List Int} {o : Obj} (h : ConfAt w wv cG B vO k xs c) (hb : Below wv.heap.size wv wq) (hr : r.length = m)
    (hl : wq.ownsRow wv.heap.size 3 1 vL m (icells r)) (ho : w5.ownsRow B 22 1 v2 (k + 1) (xs ++ [vL])) (hg : (wq.alloc o).grownBy w5 vO.ownBlock) (hB : B ≤ wv.heap.size) (hw : w.heap.size ≤ B) : ConfAt w w5 cG B v2 (k + 1) (xs ++ [vL]) (c ++ [r]) := by
  have hoq := (own_below h.own hb).alloc o
  have keep : ∀ {v : Value} {n : Nat} {ys : List Value}, wq.ownsRow B 3 1 v n ys → w5.ownsRow B 3 1 v n ys := fun hv => own_keep (hv.alloc o) hg fun b hb2 => by
    obtain ⟨_, cells, hc⟩ := own_typed0 hoq b hb2
    exact own_ne (hv.alloc o) hc (by decide)
  have hxl : xs.length = k := by have := h.own.1; omega
  refine ⟨blk_keep (blk_alloc (blk_below h.bG hb) o) hg (own_ne hoq (blk_alloc (blk_below h.bG hb) o) (by decide)), ho, fun j v r' h1 h2 => ?_, by simp [h.len], ?_⟩
  · by_cases hj : j < k
    · rw [List.getElem?_append_left (by omega)] at h1
      rw [List.getElem?_append_left (by rw [h.len]; omega)] at h2
      exact keep (own_below (h.rows j v r' h1 h2) hb)
    · rw [List.getElem?_append_right (by omega)] at h1
      rw [List.getElem?_append_right (by rw [h.len]; omega)] at h2
      rw [hxl] at h1
      rw [h.len] at h2
      obtain ⟨e1, rfl⟩ : j - k = 0 ∧ vL = v := by
        cases hjk : j - k with
        | zero => rw [hjk] at h1; simpa using h1
        | succ n => rw [hjk] at h1; simp at h1
      rw [e1] at h2
      obtain rfl : r = r' := by simpa using h2
      rw [hr]
      exact keep (own_base hl hB)
  · have hs := hb.size
    have hs2 := h.bel.size
    exact ((h.bel.trans (hb.mono hs2)).alloc (by omega) o).grown hg (by simp; omega) fun b hb2 => by have := (own_typed0 hoq b hb2).1; omega
end Go.Proofs.Ythapikakneikbaa
/-
  The specification's package selfstabref01: In, Has, All, Port, linksValid; selfstabworld.Bit.
-/
namespace Go.Proofs.Ythapikakneikbaa
open Go.RowKit
def hasB (s : Nat) (v : Int) : Bool := decide (0 ≤ v ∧ v < 32) && s.testBit v.toNat
theorem has_calls (w : World) (s : Nat) (hs : s < 4294967296) (v : Int) : Calls Try.prog 76 #[.int .u32 s, .int .i64 v] w fun e w' => e = .returned (.bool (hasB s v)) ∧ w = w' := by
  by_cases h0 : 0 ≤ v
  · by_cases h1 : v < 32
    · obtain ⟨v, rfl⟩ := Int.eq_ofNat_of_zero_le h0
      have HE : Hid (hasB s (v : Int) = s.testBit v) := by unfold Hid hasB; rw [Int.toNat_natCast, decide_eq_true (by omega), Bool.true_and]
      go_enter Try.func76, Try.ntmps76
      go_wp2_with fail
      go_ret
      refine ⟨?_, rfl⟩
      rw [HE.out, shr_and hs]
      cases s.testBit v <;> rfl
    · have HE : Hid (hasB s v = false) := by unfold Hid hasB; rw [decide_eq_false (by omega), Bool.false_and]
      go_enter Try.func76, Try.ntmps76
      go_wp2_with fail
      go_ret
      exact ⟨by rw [HE.out]; rfl, rfl⟩
  · have HE : Hid (hasB s v = false) := by unfold Hid hasB; rw [decide_eq_false (by omega), Bool.false_and]
    go_enter Try.func76, Try.ntmps76
    go_wp2_with fail
    go_ret
    exact ⟨by rw [HE.out]; rfl, rfl⟩
/-- The set of the first n nodes. -/
def allB (n : Int) : Nat := 2 ^ (min n.toNat 32) - 1
theorem allB_step {v : Nat} : 2 ^ (v + 1) - 1 = (2 ^ v - 1) ||| 2 ^ v := by
  rw [all_bits, all_bits]
  simp [bitsOf]
theorem all_calls (w : World) (n : Int) : Calls Try.prog 16 #[.int .i64 n] w fun e w' => e = .returned (.int .u32 (allB n : Nat)) ∧ w = w' := by
  go_enter Try.func16, Try.ntmps16
  go_wp2_with fail
  go_loop [3, 4] (fun s i => ∃ v : Nat, v ≤ 32 ∧ (v : Int) ≤ max n 0 ∧ i = .int .i64 v ∧ s = .int .u32 (2 ^ v - 1 : Nat)) (fun _ i => 32 - (intOf i).toNat)
  case atStart => exact ⟨0, by omega, by omega, rfl, rfl⟩
  case round =>
    obtain ⟨v, h1, h2, rfl, rfl⟩ := hrel
    by_cases hv : v < 32
    · by_cases hn : (v : Int) < n
      · have hs : 2 ^ v - 1 < 4294967296 := all_lt (by omega)
        have HS := Lib.hid (allB_step (v := v))
        generalize 2 ^ v - 1 = S at hs HS
        clear h2
        go_wp2_with fail
        go_round
        case rel => exact ⟨v + 1, by omega, by omega, by go_num, by rw [HS.out, shl1 (by omega), or_one hs (by omega)]⟩
        case measure => simp [intOf]; omega
      · have HE : Hid (allB n = 2 ^ v - 1) := by unfold Hid allB; congr 2; omega
        clear h2
        go_wp2_with fail
        go_ret
        exact ⟨by rw [HE.out]; rfl, rfl⟩
    · have HE : Hid (allB n = 2 ^ v - 1) := by unfold Hid allB; congr 2; omega
      by_cases hn : (v : Int) < n
      · clear h2
        go_wp2_with fail
        go_ret
        exact ⟨by rw [HE.out]; rfl, rfl⟩
      · clear h2
        go_wp2_with fail
        go_ret
        exact ⟨by rw [HE.out]; rfl, rfl⟩
def inB (v lo hi : Int) : Bool := decide (lo ≤ v ∧ v ≤ hi)
theorem in_calls (w : World) (v lo hi : Int) : Calls Try.prog 116 #[.int .i64 v, .int .i64 lo, .int .i64 hi] w fun e w' => e = .returned (.bool (inB v lo hi)) ∧ w = w' := by
  by_cases h0 : lo ≤ v
  · by_cases h1 : v ≤ hi
    · have HE : Hid (inB v lo hi = true) := decide_eq_true ⟨h0, h1⟩
      go_enter Try.func116, Try.ntmps116
      go_wp2_with fail
      go_ret
      exact ⟨by rw [HE.out]; rfl, rfl⟩
    · have HE : Hid (inB v lo hi = false) := decide_eq_false fun h => h1 h.2
      go_enter Try.func116, Try.ntmps116
      go_wp2_with fail
      go_ret
      exact ⟨by rw [HE.out]; rfl, rfl⟩
  · have HE : Hid (inB v lo hi = false) := decide_eq_false fun h => h0 h.1
    go_enter Try.func116, Try.ntmps116
    go_wp2_with fail
    go_ret
    exact ⟨by rw [HE.out]; rfl, rfl⟩
/-- The first port that leads to u, or -1. -/
def portOf (ps : List Link) (u : Int) : Int := match ps.findIdx? (fun l => l.to_ == u) with | some k => k | none => -1
def portAt (rows : List (List Link)) (a : Nat) (b : Int) : Int := portOf (rows.getD a []) b
set_option maxRecDepth 100000 in
theorem port_calls (w : World) (v0 : Value) (A1 : Option Addr) (c1 : Nat) (rows : List (List Link)) (hr : kLink.slice.C w A1 rows) (a : Nat) (ha : a < rows.length) (b : Int) :
    Calls Try.prog 118 #[.agg #[v0, .slice A1 rows.length c1], .int .i64 a, .int .i64 b] w fun e w' => e = .returned (.int .i64 (portAt rows a b)) ∧ Below w.heap.size w w' := by
  have hb0 := (Below.refl w.heap.size w).alloc (Nat.le_refl _) (.cells #[v0, .slice A1 rows.length c1] 27)
  obtain ⟨ad, A4, c4, hA, hcell, hl4, hC4⟩ := Kd.at_slice (Kd.C_below hr hb0) a ha
  cases hA
  have HP : Hid (rows.getD a [] = rows[a]) := by unfold Hid; simp [List.getD_eq_getElem?_getD, ha]
  generalize rows[a] = ps at hcell hl4 hC4 HP
  have hpm := Kd.C_max hC4
  have hrm := Kd.C_max hr
  have HC4 := Lib.hid hC4
  have HB0 := Lib.hid hb0
  clear hr hC4 hb0
  go_enter Try.func118, Try.ntmps118
  go_wp2_with fail
  go_loop [7] (fun i => ∃ j : Nat, j ≤ ps.length ∧ i = .int .i64 j ∧ (ps.take j).any (fun l => l.to_ == b) = false) (fun i => ps.length - (intOf i).toNat)
  case atStart => exact ⟨0, Nat.zero_le _, rfl, by simp⟩
  case round =>
    obtain ⟨j, hj, rfl, hn⟩ := hrel
    have HN := Lib.hid hn
    clear hn
    by_cases hlt : j < ps.length
    · obtain ⟨ad2, hA2, hx, hy⟩ := at_link HC4.out j hlt
      cases hA2
      have HX : Hid (ps.take (j + 1) = ps.take j ++ [ps[j]]) := by unfold Hid; rw [List.take_succ_eq_append_getElem hlt]
      have HF : Hid ((ps[j].to_ == b) = true → portAt rows a b = j) := by
        intro h
        have h2 : ps.findIdx? (fun l => l.to_ == b) = some j := by
          rw [List.findIdx?_eq_some_iff_getElem]
          refine ⟨hlt, h, fun i hi => ?_⟩
          have h3 := HN.out
          rw [List.any_eq_false] at h3
          exact h3 _ (List.mem_take_iff_getElem.2 ⟨i, by omega, rfl⟩)
        unfold portAt portOf
        rw [HP.out, h2]
      generalize ps[j] = l at hx hy HX HF
      by_cases hxb : l.to_ = b
      · have t1 : (l.to_ == b) = true := by simp [hxb]
        have HE := Lib.hid (HF.out t1)
        clear hxb
        go_wp2_with fail
        go_ret
        exact ⟨by rw [HE.out]; rfl, HB0.out⟩
      · have t1 : (l.to_ == b) = false := by simp [hxb]
        clear hxb
        have HT := Lib.hid t1
        go_wp2_with fail
        go_round
        case rel => exact ⟨j + 1, by omega, by go_num, by rw [HX.out, List.any_append, HN.out]; simpa using HT.out⟩
        case measure => simp [intOf]; omega
    · have HE : Hid (portAt rows a b = -1) := by
        have h3 := HN.out
        rw [List.take_of_length_le (by omega), List.any_eq_false] at h3
        have h2 : ps.findIdx? (fun l => l.to_ == b) = none := by
          rw [List.findIdx?_eq_none_iff]
          intro x hx
          have := h3 x hx
          simpa using this
        unfold Hid portAt portOf
        rw [HP.out, h2]
      go_wp2_with fail
      go_ret
      exact ⟨by rw [HE.out]; rfl, HB0.out⟩
/-! ### linksValid -/
def linkOK (v n : Nat) (l : Link) : Bool := decide (0 ≤ l.to_ ∧ l.to_ < n ∧ l.to_ ≠ v ∧ 1 ≤ l.wt ∧ l.wt ≤ 15)
def linksB (ps : List Link) (v n : Nat) : Bool := ps.all (linkOK v n) && apart (ps.map Link.to_)
theorem links_bad {ps : List Link} {v n k : Nat} (hk : k < ps.length) (h : linkOK v n ps[k] = false ∨ ∃ u, u < k ∧ ∃ hu : u < ps.length, ps[u].to_ = ps[k].to_) : linksB ps v n = false := by
  cases hb : linksB ps v n with
  | false => rfl
  | true =>
    simp only [linksB, Bool.and_eq_true, List.all_eq_true, apart, decide_eq_true_eq] at hb
    rcases h with h | ⟨u, hu, hu2, h⟩
    · rw [hb.1 _ (List.getElem_mem hk)] at h; cases h
    · have h2 := (List.nodup_iff_pairwise_ne.1 hb.2)
      rw [List.pairwise_iff_getElem] at h2
      have := h2 u k (by simpa using hu2) (by simpa using hk) hu
      simp [h] at this
theorem links_good {ps : List Link} {v n : Nat} (h : ∀ k (hk : k < ps.length), linkOK v n ps[k] = true ∧ ∀ u (hu : u < k), ps[u].to_ ≠ ps[k].to_) : linksB ps v n = true := by
  simp only [linksB, Bool.and_eq_true, List.all_eq_true, apart, decide_eq_true_eq]
  refine ⟨fun l hl => ?_, ?_⟩
  · obtain ⟨k, hk, rfl⟩ := List.mem_iff_getElem.1 hl
    exact (h k hk).1
  · rw [List.nodup_iff_pairwise_ne, List.pairwise_iff_getElem]
    intro i j hi hj hij
    simp only [List.getElem_map]
    exact (h j (by simpa using hj)).2 i hij
/-- The links before port k are in order. -/
def LinksTo (ps : List Link) (v n k : Nat) : Prop := ∀ i (hi : i < ps.length), i < k → linkOK v n ps[i] = true ∧ ∀ u (hu : u < i), ps[u].to_ ≠ ps[i].to_
set_option maxHeartbeats 4000000 in
set_option maxRecDepth 100000 in
theorem linksValid_calls (w : World) (A : Option Addr) (c : Nat) (ps : List Link) (hp : kLink.C w A ps) (v n : Nat) (_hv : v ≤ 100) (hn : n ≤ 100) :
    Calls Try.prog 117 #[.slice A ps.length c, .int .i64 v, .int .i64 n] w fun e w' => e = .returned (.bool (linksB ps v n)) ∧ Below w.heap.size w w' := by
  have hpm := Kd.C_max hp
  have HC := Lib.hid hp
  clear hp
  go_enter Try.func117, Try.ntmps117
  go_wp2_with fail
  go_loopw [7] (fun i wr => ∃ k : Nat, k ≤ ps.length ∧ i = .int .i64 k ∧ LinksTo ps v n k ∧ Below w.heap.size w wr) (fun i _ => ps.length - (intOf i).toNat)
  case atStart => exact ⟨0, Nat.zero_le _, rfl, fun _ _ h => absurd h (Nat.not_lt_zero _), Below.refl _ _⟩
  case round =>
    obtain ⟨k, hk, rfl, hl, hb⟩ := hrel
    have HL := Lib.hid hl
    have HB := Lib.hid hb
    clear hl hb
    obtain ⟨wv, rfl⟩ : ∃ wv : World, wv = wr := ⟨_, rfl⟩
    by_cases hlt : k < ps.length
    · obtain ⟨ad, hA, hx, hy⟩ := at_link (Kd.C_below HC.out HB.out) k hlt
      subst hA
      have HBAD1 : Hid (linkOK v n ps[k] = false → linksB ps v n = false) := fun h => links_bad hlt (.inl h)
      have HBAD2 : Hid (∀ u, u < k → ∀ hu : u < ps.length, ps[u].to_ = ps[k].to_ → linksB ps v n = false) := fun u h1 h2 h3 => links_bad hlt (.inr ⟨u, h1, h2, h3⟩)
      have HSTEP : Hid (linkOK v n ps[k] = true → (∀ u (hu : u < k), ps[u].to_ ≠ ps[k].to_) → LinksTo ps v n (k + 1)) := fun h1 h2 i hi hik => by
        by_cases e : i = k
        · subst e; exact ⟨h1, h2⟩
        · exact HL.out i hi (by omega)
      generalize hkl : ps[k] = l at hx hy HBAD1 HBAD2 HSTEP
      have HKL := Lib.hid hkl
      clear hkl
      go_wp2_with fail
      refine (in_calls _ _ _ _).mono ?_
      rintro e w1 ⟨rfl, rfl⟩
      cases h1 : inB l.to_ 0 ((n : Int) - 1) with
      | false =>
        have HE := Lib.hid (HBAD1.out (by simp only [inB, decide_eq_false_iff_not] at h1; simp only [linkOK, decide_eq_false_iff_not]; omega))
        clear h1
        go_wp2_with fail
        go_ret
        exact ⟨by rw [HE.out]; rfl, HB.out⟩
      | true =>
        have H1 : Hid (0 ≤ l.to_ ∧ l.to_ < n) := by simp only [inB, decide_eq_true_eq] at h1; unfold Hid; omega
        clear h1
        by_cases h2 : l.to_ = (v : Int)
        · have t2 : (l.to_ == (v : Int)) = true := by simp [h2]
          have HE := Lib.hid (HBAD1.out (by simp only [linkOK, decide_eq_false_iff_not]; omega))
          clear h2
          go_wp2_with fail
          go_ret
          exact ⟨by rw [HE.out]; rfl, HB.out⟩
        · have t2 : (l.to_ == (v : Int)) = false := by simp [h2]
          have H2 := Lib.hid h2
          clear h2
          go_wp2_with fail
          refine (in_calls _ _ _ _).mono ?_
          rintro e w1 ⟨rfl, rfl⟩
          cases h3 : inB l.wt 1 15 with
          | false =>
            have HE := Lib.hid (HBAD1.out (by simp only [inB, decide_eq_false_iff_not] at h3; simp only [linkOK, decide_eq_false_iff_not]; omega))
            clear h3
            go_wp2_with fail
            go_ret
            exact ⟨by rw [HE.out]; rfl, HB.out⟩
          | true =>
            have HOK : Hid (linkOK v n l = true) := by
              have a1 := H1.out
              have a2 := H2.out
              simp only [inB, decide_eq_true_eq] at h3
              unfold Hid
              simp only [linkOK, decide_eq_true_eq]
              omega
            clear h3
            go_wp2_with fail
            go_loopw [8] (fun i wr => ∃ u : Nat, u ≤ k ∧ i = .int .i64 u ∧ (∀ t (ht : t < ps.length), t < u → ps[t].to_ ≠ l.to_) ∧ Below w.heap.size w wr) (fun i _ => k - (intOf i).toNat)
            case atStart => exact ⟨0, Nat.zero_le _, rfl, fun _ _ h => absurd h (Nat.not_lt_zero _), HB.out⟩
            case round =>
              obtain ⟨wq, rfl⟩ : ∃ wq : World, wq = wr := ⟨_, rfl⟩
              obtain ⟨u, hu, rfl, hne, hb2⟩ := hrel
              have HNE := Lib.hid hne
              have HB2 := Lib.hid hb2
              clear hne hb2
              by_cases huk : u < k
              · have hul : u < ps.length := by omega
                obtain ⟨ad3, hA3, hx3, hy3⟩ := at_link (Kd.C_below HC.out HB2.out) u hul
                cases hA3
                obtain ⟨ad4, hA4, hx4, hy4⟩ := at_link (Kd.C_below HC.out HB2.out) k hlt
                cases hA4
                rw [HKL.out] at hx4
                have HB2L : Hid (ps[u].to_ = l.to_ → linksB ps v n = false) := fun h => HBAD2.out u huk hul h
                have HN2 : Hid (ps[u].to_ ≠ l.to_ → ∀ t (ht : t < ps.length), t < u + 1 → ps[t].to_ ≠ l.to_) := fun h t ht htu => by
                  by_cases e : t = u
                  · subst e; exact h
                  · exact HNE.out t ht (by omega)
                have b1 : (u : Int) < (ps.length : Int) := by omega
                have b2 : (k : Int) < (ps.length : Int) := by omega
                have b3 : (0 : Int) ≤ (u : Int) := by omega
                have b4 : (0 : Int) ≤ (k : Int) := by omega
                generalize ps[u].wt = y3 at hy3
                generalize ps[u].to_ = x3 at hx3 HB2L HN2
                clear hx hy hy4
                by_cases he : x3 = l.to_
                · have t5 : (x3 == l.to_) = true := by simp [he]
                  have HE := Lib.hid (HB2L.out he)
                  clear he
                  go_wp2_with fail
                  go_quiet (fail)
                  go_wp2_with fail
                  go_ret
                  exact ⟨by rw [HE.out]; rfl, below_drewN HB2.out _⟩
                · have t5 : (x3 == l.to_) = false := by simp [he]
                  have HE := Lib.hid (HN2.out he)
                  clear he
                  go_wp2_with fail
                  go_quiet (fail)
                  go_wp2_with fail
                  go_roundw
                  case rel => exact ⟨u + 1, by omega, by go_num, HE.out, below_drewN HB2.out _⟩
                  case measure => simp [intOf]; omega
              · have HS := Lib.hid (HSTEP.out HOK.out fun t ht => HNE.out t (by omega) (by omega))
                go_wp2_with fail
                go_roundw
                case rel => exact ⟨k + 1, by omega, by go_num, HS.out, HB2.out⟩
                case measure => simp [intOf]; omega
    · have HE : Hid (linksB ps v n = true) := links_good fun i hi => HL.out i hi (by omega)
      go_wp2_with fail
      go_ret
      exact ⟨by rw [HE.out]; rfl, HB.out⟩
end Go.Proofs.Ythapikakneikbaa
/-
  What selfstabref01.Valid asks for is what 'valid' says. (No program in this text.)
-/
namespace Go.Proofs.Ythapikakneikbaa
theorem row_nodup {g : Graph} (h : g.valid = true) {v : Nat} (hv : v < g.ports.length) : ((g.ports.getD v []).map Link.to_).Nodup := by
  obtain ⟨_, _, _, _, hnd, _⟩ := (valid_iff g).1 h
  have e : g.ports.getD v [] = g.ports[v] := by simp [List.getD_eq_getElem?_getD, hv]
  rw [e]
  have hsub : (rowEdges (0 + (v : Int)) g.ports[v]).Sublist g.edges := by
    unfold Graph.edges
    have e2 : g.ports = g.ports.take v ++ (g.ports[v] :: g.ports.drop (v + 1)) := by rw [List.getElem_cons_drop, List.take_append_drop]
    rw [show edgesFrom 0 g.ports = edgesFrom 0 (g.ports.take v ++ (g.ports[v] :: g.ports.drop (v + 1))) from by rw [← e2], edgesFrom_append]
    have e3 : ((g.ports.take v).length : Int) = v := by rw [List.length_take]; omega
    rw [e3]
    simp only [edgesFrom]
    exact ((List.sublist_append_left _ _).trans (List.sublist_append_right _ _))
  have hn2 := (hsub.map Edge.key).nodup hnd
  have e4 : (rowEdges (0 + (v : Int)) g.ports[v]).map Edge.key = (g.ports[v].map Link.to_).map fun x => (0 + (v : Int), x) := by
    unfold rowEdges
    rw [List.map_map, List.map_map]
    rfl
  rw [e4, List.nodup_iff_pairwise_ne, List.pairwise_map] at hn2
  rw [List.nodup_iff_pairwise_ne]
  exact hn2.imp fun h e => h (by rw [e])
theorem row_short {g : Graph} (h : g.valid = true) {v : Nat} (hv : v < g.ports.length) : (g.ports.getD v []).length < g.ports.length := by
  have h1 := row_nodup h hv
  have h2 := List.Nodup.length_le_of_subset h1 (l₂ := ((List.range g.ports.length).erase v).map (fun k : Nat => (k : Int))) fun x hx => by
    obtain ⟨l, hl, rfl⟩ := List.mem_map.1 hx
    obtain ⟨r0, r1, r2, _⟩ := valid_link h hl
    refine List.mem_map.2 ⟨l.to_.toNat, ?_, by omega⟩
    rw [List.mem_erase_of_ne (by omega)]
    exact List.mem_range.2 (by omega)
  rw [List.length_map, List.length_map, List.length_erase_of_mem (List.mem_range.2 hv), List.length_range] at h2
  omega
theorem not_true {b : Bool} (h : b = true → False) : b = false := by cases b with | false => rfl | true => exact absurd rfl fun e => h e
section
variable {g : Graph} {v : Nat}
theorem bad_id (hv : v < g.ids.length) (h : okID (g.ids.getD v 0) = false) : g.valid = false := not_true fun hV => by
  have := ((valid_iff g).1 hV).2.1 (g.ids.getD v 0) (by simp [List.getD_eq_getElem?_getD, hv])
  rw [h] at this; cases this
theorem bad_len (hv : v < g.ports.length) (h : g.ports.length ≤ (g.ports.getD v []).length) : g.valid = false := not_true fun hV => by
  have := row_short hV hv; omega
theorem bad_links (hv : v < g.ports.length) (h : linksB (g.ports.getD v []) v g.ports.length = false) : g.valid = false := not_true fun hV => by
  have : linksB (g.ports.getD v []) v g.ports.length = true := by
    simp only [linksB, Bool.and_eq_true, List.all_eq_true, apart, decide_eq_true_eq]
    refine ⟨fun l hl => ?_, row_nodup hV hv⟩
    have := valid_link hV hl
    simp only [linkOK, decide_eq_true_eq]
    omega
  rw [h] at this; cases this
theorem bad_same {u : Nat} (hu : u < v) (hv : v < g.ids.length) (h : g.ids.getD u 0 = g.ids.getD v 0) : g.valid = false := not_true fun hV => by
  have := ((valid_iff g).1 hV).2.2.1
  rw [List.nodup_iff_pairwise_ne, List.pairwise_iff_getElem] at this
  have := this u v (by omega) hv hu
  simp [List.getD_eq_getElem?_getD, hv, show u < g.ids.length by omega] at h
  exact this h
end
theorem port_some {ps : List Link} {u : Int} {k : Nat} (h : portOf ps u = k) : ∃ hk : k < ps.length, ps[k].to_ = u := by
  unfold portOf at h
  cases hf : ps.findIdx? (fun l => l.to_ == u) with
  | none => rw [hf] at h; simp at h
  | some j =>
    rw [hf] at h
    have h' : (j : Int) = k := by simpa using h
    obtain rfl : j = k := by omega
    rw [List.findIdx?_eq_some_iff_getElem] at hf
    obtain ⟨h1, h2, _⟩ := hf
    exact ⟨h1, by simpa using h2⟩
theorem port_none {ps : List Link} {u : Int} (h : portOf ps u < 0) : ∀ l ∈ ps, l.to_ ≠ u := by
  unfold portOf at h
  cases hf : ps.findIdx? (fun l => l.to_ == u) with
  | some j => rw [hf] at h; simp at h; omega
  | none =>
    rw [List.findIdx?_eq_none_iff] at hf
    intro l hl
    have := hf l hl
    simpa using this
theorem port_bd (ps : List Link) (u : Int) : -1 ≤ portOf ps u ∧ portOf ps u < ps.length := by
  unfold portOf
  cases hf : ps.findIdx? (fun l => l.to_ == u) with
  | none => simp; omega
  | some j =>
    rw [List.findIdx?_eq_some_iff_getElem] at hf
    obtain ⟨h1, _⟩ := hf
    simp; omega
/-- The link has the same link as its other end's. -/
def BackOK (P : List (List Link)) (v : Nat) (l : Link) : Prop := ∃ (k : Nat) (_ : k < (P.getD l.to_.toNat []).length), portAt P l.to_.toNat v = k ∧ ((P.getD l.to_.toNat [])[k]).wt = l.wt
theorem bad_back {g : Graph} {v : Nat} {l : Link} (hl : l ∈ g.ports.getD v []) (h : ¬ BackOK g.ports v l) : g.valid = false := not_true fun hV => by
  have hin := valid_link hV hl
  have hv : v < g.ports.length := by
    rcases Nat.lt_or_ge v g.ports.length with h | h
    · exact h
    · rw [List.getD_eq_getElem?_getD, List.getElem?_eq_none h] at hl; cases hl
  have hm : (⟨v, l.to_, l.wt⟩ : Edge) ∈ g.edges := mem_edgesFrom.2 ⟨v, g.ports[v], List.getElem?_eq_getElem hv, by simp, by simpa [List.getD_eq_getElem?_getD, hv] using hl⟩
  have hb := ((valid_iff g).1 hV).2.2.2.2.2 _ hm
  simp only [Edge.back, decide_eq_true_eq] at hb
  obtain ⟨k, r, hr, hk, hmem⟩ := mem_edges.1 hb
  simp only at hk hmem
  have hkt : k = l.to_.toNat := by omega
  subst hkt
  have hrD : g.ports.getD l.to_.toNat [] = r := by rw [List.getD_eq_getElem?_getD, hr]; rfl
  have hkl : l.to_.toNat < g.ports.length := by omega
  refine h ?_
  by_cases hp : portAt g.ports l.to_.toNat v < 0
  · exact absurd rfl (port_none hp _ (by rw [hrD]; exact hmem))
  · obtain ⟨j, hj⟩ : ∃ j : Nat, portAt g.ports l.to_.toNat v = j := ⟨(portAt g.ports l.to_.toNat v).toNat, by omega⟩
    obtain ⟨h1, h2⟩ := port_some hj
    refine ⟨j, h1, hj, ?_⟩
    have hnd := row_nodup hV hkl
    rw [hrD] at hnd
    simp only [hrD] at h1 h2 ⊢
    obtain ⟨i, hi, he⟩ := List.mem_iff_getElem.1 hmem
    rw [List.nodup_iff_pairwise_ne, List.pairwise_iff_getElem] at hnd
    have hij : i = j := by
      rcases Nat.lt_trichotomy i j with hij | hij | hij
      · have := hnd i j (by simpa using hi) (by simpa using h1) hij
        simp only [List.getElem_map, he, h2] at this
        exact absurd rfl this
      · exact hij
      · have := hnd j i (by simpa using h1) (by simpa using hi) hij
        simp only [List.getElem_map, he, h2] at this
        exact absurd rfl this
    subst hij
    rw [he]
/-- What the first loop asks at a node. -/
def RowOK (g : Graph) (v : Nat) : Prop := okID (g.ids.getD v 0) = true ∧ (g.ports.getD v []).length < g.ports.length ∧ linksB (g.ports.getD v []) v g.ports.length = true ∧ ∀ u, u < v → g.ids.getD u 0 ≠ g.ids.getD v 0
theorem ref_good {g : Graph} (h : 1 ≤ g.ports.length ∧ g.ports.length ≤ 24 ∧ g.ids.length = g.ports.length) (h1 : ∀ v, v < g.ports.length → RowOK g v) (h2 : ∀ v, v < g.ports.length → ∀ l ∈ g.ports.getD v [], BackOK g.ports v l) : g.valid = true := by
  have row : ∀ (a : Nat) r, g.ports[a]? = some r → a < g.ports.length ∧ g.ports.getD a [] = r := fun a r hr => ⟨(List.getElem?_eq_some_iff.1 hr).1, by rw [List.getD_eq_getElem?_getD, hr]; rfl⟩
  have hok : ∀ (a : Nat) r, g.ports[a]? = some r → linksB r a g.ports.length = true := fun a r hr => by
    obtain ⟨h3, h4⟩ := row a r hr
    rw [← h4]; exact (h1 a h3).2.2.1
  have hG : Good g.ports.length g.ports := by
    refine ⟨rfl, fun a r l hr hl => ?_, fun a r hr => ?_, fun a r l hr hl => ?_⟩
    · have := hok a r hr
      simp only [linksB, Bool.and_eq_true, List.all_eq_true] at this
      have := this.1 l hl
      simp only [linkOK, decide_eq_true_eq] at this
      exact this
    · have := hok a r hr
      simp only [linksB, Bool.and_eq_true, apart, decide_eq_true_eq] at this
      exact this.2
    · obtain ⟨h3, h4⟩ := row a r hr
      obtain ⟨k, hk, hp, hw⟩ := h2 a h3 l (by rw [h4]; exact hl)
      obtain ⟨hk2, ht⟩ := port_some hp
      have hlt : l.to_.toNat < g.ports.length := by
        rcases Nat.lt_or_ge l.to_.toNat g.ports.length with h | h
        · exact h
        · rw [List.getD_eq_getElem?_getD, List.getElem?_eq_none h] at hk; simp at hk
      refine ⟨g.ports.getD l.to_.toNat [], by simp [List.getD_eq_getElem?_getD, hlt], ?_⟩
      have : (⟨(a : Int), l.wt⟩ : Link) = (g.ports.getD l.to_.toNat [])[k] := by
        rw [← ht, ← hw]
      rw [this]
      exact List.getElem_mem hk
  have hids : ∀ x ∈ g.ids, 0 ≤ x ∧ x < 256 := fun x hx => by
    obtain ⟨v, hv, rfl⟩ := List.mem_iff_getElem.1 hx
    have := (h1 v (by omega)).1
    simp only [List.getD_eq_getElem?_getD, List.getElem?_eq_getElem hv, Option.getD_some, okID, decide_eq_true_eq] at this
    omega
  have hnd : g.ids.Nodup := by
    rw [List.nodup_iff_pairwise_ne, List.pairwise_iff_getElem]
    intro i j hi hj hij
    have := (h1 j (by omega)).2.2.2 i hij
    simpa [List.getD_eq_getElem?_getD, hi, hj] using this
  exact good_valid (ids := g.ids) hG h.1 h.2.1 h.2.2 hids hnd
end Go.Proofs.Ythapikakneikbaa
/-
  selfstabref01.Valid.
-/
namespace Go.Proofs.Ythapikakneikbaa
open Go.RowKit
set_option maxHeartbeats 8000000 in
set_option maxRecDepth 100000 in
theorem refvalid_late (w : World) (A0 : Option Addr) (c0 : Nat) (A1 : Option Addr) (c1 : Nat) (g : Graph) (hg : IsGraph w A0 c0 A1 c1 g) (h1 : 1 ≤ g.ports.length) (h2 : g.ports.length ≤ 24) (h3 : g.ids.length = g.ports.length) :
    Calls Try.prog 75 #[.agg #[.slice A0 g.ids.length c0, .slice A1 g.ports.length c1]] w fun e w' => e = .returned (.bool g.valid) ∧ Below w.heap.size w w' := by
  have H3 := Lib.hid h3
  have HG := Lib.hid hg
  have t1 : inB (g.ports.length : Int) 1 24 = true := by unfold inB; exact decide_eq_true ⟨by omega, by omega⟩
  have t2 : ((g.ids.length : Int) != (g.ports.length : Int)) = false := by rw [h3]; simp
  have T1 := Lib.hid t1
  clear h3 hg t1
  go_enter Try.func75, Try.ntmps75
  go_wp2_with fail
  refine (in_calls _ _ _ _).mono ?_
  rintro e w1 ⟨rfl, rfl⟩
  rw [T1.out]
  go_wp2_with fail
  have hb0 := (Below.refl w.heap.size w).alloc (Nat.le_refl _) (.cells #[.slice A0 g.ids.length c0, .slice A1 g.ports.length c1] 27)
  have bG : (w.alloc (.cells #[.slice A0 g.ids.length c0, .slice A1 g.ports.length c1] 27)).heap[w.heap.size]? = some (.cells #[.slice A0 g.ids.length c0, .slice A1 g.ports.length c1] 27 (0, 0)) := blk_new rfl
  generalize w.alloc _ = w1 at hb0 bG ⊢
  have HB0 := Lib.hid hb0
  have HBG := Lib.hid bG
  clear hb0 bG t2
  go_loopw [4] (fun i wr => ∃ v : Nat, v ≤ g.ports.length ∧ i = .int .i64 v ∧ (∀ u, u < v → RowOK g u) ∧ Below w.heap.size w wr ∧ wr.heap[w.heap.size]? = some (.cells #[.slice A0 g.ids.length c0, .slice A1 g.ports.length c1] 27 (0, 0))) (fun i _ => g.ports.length - (intOf i).toNat)
  case atStart => exact ⟨0, Nat.zero_le _, rfl, fun _ h => absurd h (Nat.not_lt_zero _), HB0.out, HBG.out⟩
  case round =>
    obtain ⟨wv, rfl⟩ : ∃ wv : World, wv = wr := ⟨_, rfl⟩
    obtain ⟨v, hv, rfl, hrow, hb, hbg⟩ := hrel
    have HROW := Lib.hid hrow
    have HB := Lib.hid hb
    have HBv := Lib.hid hbg
    have cG0 := blk_cell (j := 0) (v := .slice A0 g.ids.length c0) hbg rfl
    have cG1 := blk_cell (j := 1) (v := .slice A1 g.ports.length c1) hbg rfl
    clear hrow hb hbg HBG HB0
    by_cases hlt : v < g.ports.length
    · have hli : v < g.ids.length := by have := H3.out; omega
      have hlI : (v : Int) < (g.ids.length : Int) := by omega
      obtain ⟨ad, rfl, hc⟩ := Kd.at_int (HG.out.below HB.out).ids v hli
      obtain ⟨ad2, A4, c4, rfl, hcell, hl4, hC4⟩ := Kd.at_slice (HG.out.below HB.out).ports v hlt
      have BID : Hid (okID (g.ids.getD v 0) = false → g.valid = false) := bad_id hli
      have BLEN : Hid (g.ports.length ≤ (g.ports.getD v []).length → g.valid = false) := bad_len hlt
      have BLK : Hid (linksB (g.ports.getD v []) v g.ports.length = false → g.valid = false) := bad_links hlt
      have HI : Hid (g.ids.getD v 0 = g.ids[v]) := by unfold Hid; simp [List.getD_eq_getElem?_getD, hli]
      have HP : Hid (g.ports.getD v [] = g.ports[v]) := by unfold Hid; simp [List.getD_eq_getElem?_getD, hlt]
      rw [HI.out] at BID
      rw [HP.out] at BLEN BLK
      generalize g.ids[v] = y at hc BID HI
      generalize g.ports[v] = ps at hcell hl4 hC4 BLEN BLK HP
      have hpm := Kd.C_max hC4
      have HC4 := Lib.hid hC4
      clear hC4
      go_wp2_with fail
      refine (in_calls _ _ _ _).mono ?_
      rintro e w3 ⟨rfl, rfl⟩
      cases hok : inB y 0 255 with
      | false =>
        have HE := Lib.hid (BID.out hok)
        go_wp2_with fail
        go_ret
        exact ⟨by rw [HE.out]; rfl, HB.out⟩
      | true =>
        have HOK : Hid (okID y = true) := hok
        by_cases hlen : ps.length < g.ports.length
        · have hlenb : ¬ (g.ports.length : Int) ≤ (ps.length : Int) := by omega
          go_wp2_with fail
          refine (linksValid_calls _ _ _ ps HC4.out v g.ports.length (by omega) (by omega)).mono ?_
          rintro e w4 ⟨rfl, hb4⟩
          have hw4 := HB.out.trans (hb4.mono HB.out.size)
          have HB4 := Lib.hid hw4
          have HBG4 := Lib.hid (blk_below HBv.out hb4)
          clear hb4 hw4
          cases hlk : linksB ps v g.ports.length with
          | false =>
            have HE := Lib.hid (BLK.out hlk)
            clear hlk
            go_wp2_with fail
            go_ret
            exact ⟨by rw [HE.out]; rfl, HB4.out⟩
          | true =>
            have HLK := Lib.hid hlk
            clear hlk cG0 cG1 hok
            go_wp2_with fail
            have HLEN := Lib.hid hlen
            clear hlen hlenb
            go_loopw [5] (fun i wr => ∃ u : Nat, u ≤ v ∧ i = .int .i64 u ∧ (∀ t, t < u → g.ids.getD t 0 ≠ y) ∧ Below w.heap.size w wr ∧ wr.heap[w.heap.size]? = some (.cells #[.slice (some ad) g.ids.length c0, .slice (some ad2) g.ports.length c1] 27 (0, 0))) (fun i _ => v - (intOf i).toNat)
            case atStart => exact ⟨0, Nat.zero_le _, rfl, fun _ h => absurd h (Nat.not_lt_zero _), HB4.out, HBG4.out⟩
            case round =>
              obtain ⟨wq, rfl⟩ : ∃ wq : World, wq = wr := ⟨_, rfl⟩
              obtain ⟨u, hu, rfl, hne, hbq, hgq⟩ := hrel
              have HNE := Lib.hid hne
              have HBQ := Lib.hid hbq
              have HGQ := Lib.hid hgq
              have cG0 := blk_cell (j := 0) (v := .slice (some ad) g.ids.length c0) hgq rfl
              clear hne hbq hgq
              by_cases huv : u < v
              · have hul : u < g.ids.length := by omega
                obtain ⟨ad5, hA5, hcu⟩ := Kd.at_int (HG.out.below HBQ.out).ids u hul
                cases hA5
                obtain ⟨ad6, hA6, hcv⟩ := Kd.at_int (HG.out.below HBQ.out).ids v hli
                cases hA6
                have HIv : Hid (g.ids[v] = y) := by unfold Hid; have := HI.out; simpa [List.getD_eq_getElem?_getD, hli] using this
                rw [HIv.out] at hcv
                have HIu : Hid (g.ids.getD u 0 = g.ids[u]) := by unfold Hid; simp [List.getD_eq_getElem?_getD, hul]
                have HSAME : Hid (g.ids[u] = y → g.valid = false) := fun h => bad_same huv hli (by rw [HIu.out, HI.out, h])
                have HN2 : Hid (g.ids[u] ≠ y → ∀ t, t < u + 1 → g.ids.getD t 0 ≠ y) := fun h t ht => by
                  by_cases e : t = u
                  · subst e; rw [HIu.out]; exact h
                  · exact HNE.out t (by omega)
                generalize g.ids[u] = z at hcu HSAME HN2
                clear HIu HIv
                have b1 : (u : Int) < (g.ids.length : Int) := by omega
                have b3 : (0 : Int) ≤ (u : Int) := by omega
                have b4 : (0 : Int) ≤ (v : Int) := by omega
                by_cases he : z = y
                · have t5 : (z == y) = true := by simp [he]
                  have HE := Lib.hid (HSAME.out he)
                  clear he
                  go_wp2_with fail
                  go_quiet (fail)
                  go_wp2_with fail
                  go_ret
                  exact ⟨by rw [HE.out]; rfl, below_drewN HBQ.out _⟩
                · have t5 : (z == y) = false := by simp [he]
                  have HE := Lib.hid (HN2.out he)
                  clear he
                  go_wp2_with fail
                  go_quiet (fail)
                  go_wp2_with fail
                  go_roundw
                  case rel => exact ⟨u + 1, by omega, by go_num, HE.out, below_drewN HBQ.out _, HGQ.out⟩
                  case measure => simp [intOf]; omega
              · have HS : Hid (∀ u, u < v + 1 → RowOK g u) := fun u hu => by
                  by_cases e : u = v
                  · subst e; exact ⟨by rw [HI.out]; exact HOK.out, by rw [HP.out]; exact HLEN.out, by rw [HP.out]; exact HLK.out, fun t ht => by rw [HI.out]; exact HNE.out t (by omega)⟩
                  · exact HROW.out u (by omega)
                go_wp2_with fail
                go_roundw
                case rel => exact ⟨v + 1, by omega, by go_num, HS.out, HBQ.out, HGQ.out⟩
                case measure => simp [intOf]; omega
        · have HE := Lib.hid (BLEN.out (by omega))
          have hlenb : (g.ports.length : Int) ≤ (ps.length : Int) := by omega
          go_wp2_with fail
          go_ret
          exact ⟨by rw [HE.out]; rfl, HB.out⟩
    · have HALL : Hid (∀ u, u < g.ports.length → RowOK g u) := fun u hu => HROW.out u (by omega)
      clear HROW cG0 cG1
      go_wp2_with fail
      go_loopw [6] (fun i wr => ∃ v : Nat, v ≤ g.ports.length ∧ i = .int .i64 v ∧ (∀ u, u < v → ∀ l ∈ g.ports.getD u [], BackOK g.ports u l) ∧ Below w.heap.size w wr ∧ wr.heap[w.heap.size]? = some (.cells #[.slice A0 g.ids.length c0, .slice A1 g.ports.length c1] 27 (0, 0))) (fun i _ => g.ports.length - (intOf i).toNat)
      case atStart => exact ⟨0, Nat.zero_le _, rfl, fun _ h => absurd h (Nat.not_lt_zero _), HB.out, HBv.out⟩
      case round =>
        obtain ⟨wz, rfl⟩ : ∃ wz : World, wz = wr := ⟨_, rfl⟩
        obtain ⟨v, hv, rfl, hback, hbz, hgz⟩ := hrel
        have HBACK := Lib.hid hback
        have HBZ := Lib.hid hbz
        have HGZ := Lib.hid hgz
        clear hback hbz hgz HB HBv
        by_cases hlt : v < g.ports.length
        · go_wp2_with fail
          go_loopw [7] (fun i wr => ∃ j : Nat, j ≤ (g.ports.getD v []).length ∧ i = .int .i64 j ∧ (∀ l ∈ (g.ports.getD v []).take j, BackOK g.ports v l) ∧ Below w.heap.size w wr ∧ wr.heap[w.heap.size]? = some (.cells #[.slice A0 g.ids.length c0, .slice A1 g.ports.length c1] 27 (0, 0))) (fun i _ => (g.ports.getD v []).length - (intOf i).toNat)
          case atStart => exact ⟨0, Nat.zero_le _, rfl, fun _ h => by simp at h, HBZ.out, HGZ.out⟩
          case round =>
            obtain ⟨wq, rfl⟩ : ∃ wq : World, wq = wr := ⟨_, rfl⟩
            obtain ⟨j, hj, rfl, hbk, hbq, hgq⟩ := hrel
            have HBK := Lib.hid hbk
            have HBQ := Lib.hid hbq
            have HGQ := Lib.hid hgq
            have cG0 := blk_cell (j := 0) (v := .slice A0 g.ids.length c0) hgq rfl
            have cG1 := blk_cell (j := 1) (v := .slice A1 g.ports.length c1) hgq rfl
            have hzq := blk_lt hgq
            clear hbk hbq hgq HBZ HGZ
            obtain ⟨ad2, A4, c4, rfl, hcell, hl4, hC4⟩ := Kd.at_slice (HG.out.below HBQ.out).ports v hlt
            have HP : Hid (g.ports.getD v [] = g.ports[v]) := by unfold Hid; simp [List.getD_eq_getElem?_getD, hlt]
            rw [HP.out] at hj
            generalize g.ports[v] = ps at hcell hl4 hC4 HP hj
            have hpm := Kd.C_max hC4
            have HC4 := Lib.hid hC4
            clear hC4
            by_cases hjl : j < ps.length
            · obtain ⟨ad3, rfl, hx, hy⟩ := at_link HC4.out j hjl
              have HM : Hid (ps[j] ∈ g.ports.getD v []) := by unfold Hid; rw [HP.out]; exact List.getElem_mem hjl
              have HOKL : Hid (linkOK v g.ports.length ps[j] = true) := by
                have := (HALL.out v hlt).2.2.1
                simp only [linksB, Bool.and_eq_true, List.all_eq_true] at this
                exact this.1 _ HM.out
              have HTK : Hid (BackOK g.ports v ps[j] → ∀ l ∈ (g.ports.getD v []).take (j + 1), BackOK g.ports v l) := fun h l hl => by
                rw [HP.out, List.take_succ_eq_append_getElem hjl] at hl
                rcases List.mem_append.1 hl with hl | hl
                · exact HBK.out l (by rw [HP.out]; exact hl)
                · rw [List.mem_singleton.1 hl]; exact h
              generalize ps[j] = l at hx hy HM HOKL HTK
              obtain ⟨lt, lw⟩ := l
              have hok := HOKL.out
              simp only [linkOK, decide_eq_true_eq] at hok
              obtain ⟨o1, o2, _⟩ := hok
              obtain ⟨a, rfl⟩ := Int.eq_ofNat_of_zero_le o1
              have hal : a < g.ports.length := by omega
              have hB0 := HBQ.out
              simp only at hx hy
              have HBAD : Hid (¬ BackOK g.ports v ⟨(a : Int), lw⟩ → g.valid = false) := fun h => bad_back HM.out h
              have hpb := port_bd (g.ports.getD a []) (v : Int)
              have HPA : Hid (portAt g.ports a v = portOf (g.ports.getD a []) v) := rfl
              go_wp2_with fail
              refine (port_calls _ _ _ _ g.ports (Kd.C_below (HG.out.below HBQ.out).ports ((Below.refl _ _).alloc (Nat.le_refl _) _)) a hal _).mono ?_
              rintro e w6 ⟨rfl, hb6⟩
              obtain ⟨d0, d1, hz6, hb7⟩ := box2 hb6
              have hb8 := HBQ.out.trans (hb7.mono HBQ.out.size)
              have HB8 := Lib.hid hb8
              have HG8 := Lib.hid (blk_below HGQ.out hb7)
              have e1 := blk_cell (j := 1) (v := .slice (some ad2) g.ports.length c1) HG8.out rfl
              clear hb6 hb7 cG0 cG1 hx hy hcell
              rw [HPA.out]
              by_cases hneg : portOf (g.ports.getD a []) v < 0
              · have HE := Lib.hid (HBAD.out (by
                  rintro ⟨k, hk, hp, _⟩
                  rw [Int.toNat_natCast] at hp
                  rw [HPA.out] at hp
                  omega))
                generalize portOf (g.ports.getD a []) v = k at hneg hpb
                clear hb8
                go_wp2_with fail
                go_quiet (fail)
                go_wp2_with fail
                go_ret
                exact ⟨by rw [HE.out]; rfl, below_drewN HB8.out _⟩
              · obtain ⟨k, hk⟩ : ∃ k : Nat, portOf (g.ports.getD a []) v = k := ⟨_, (Int.toNat_of_nonneg (by omega)).symm⟩
                obtain ⟨hkl, hkt⟩ := port_some hk
                have HPK : Hid (portAt g.ports a v = k) := HPA.out.trans hk
                rw [hk]
                obtain ⟨ad7, A7, c7, hA7, hcell7, hl7, hC7⟩ := Kd.at_slice (HG.out.below hb8).ports a hal
                cases hA7
                have HPa : Hid (g.ports.getD a [] = g.ports[a]) := by unfold Hid; simp [List.getD_eq_getElem?_getD, hal]
                have HW : Hid (BackOK g.ports v ⟨(a : Int), lw⟩ ↔ ((g.ports.getD a [])[k]).wt = lw) := by
                  constructor
                  · rintro ⟨k', hk', hp', hw'⟩
                    simp only [Int.toNat_natCast] at hk' hp' hw'
                    rw [HPK.out] at hp'
                    obtain rfl : k = k' := by omega
                    exact hw'
                  · intro h
                    exact ⟨k, by simpa only [Int.toNat_natCast] using hkl, by simpa only [Int.toNat_natCast] using HPK.out, by simpa only [Int.toNat_natCast] using h⟩
                generalize hpa : g.ports.getD a [] = pa at hkl hkt HW HPa
                rw [← HPa.out] at hcell7 hl7 hC7
                have hpm7 := Kd.C_max hC7
                obtain ⟨ad8, hA8, hx8, hy8⟩ := at_link hC7 k hkl
                subst hA8
                clear hC7 hb8 hneg hpb hk hkt hx8 hpa
                generalize pa[k].wt = z at hy8 HW
                have b1 : (a : Int) < (g.ports.length : Int) := by omega
                have b2 : (k : Int) < (pa.length : Int) := by omega
                have b3 : (0 : Int) ≤ (a : Int) := by omega
                have b4 : (0 : Int) ≤ (k : Int) := by omega
                have b5 : decide ((k : Int) < 0) = false := decide_eq_false (by omega)
                by_cases hzw : z = lw
                · have t5 : (z != lw) = false := by simp [hzw]
                  have HE := Lib.hid (HTK.out (HW.out.2 hzw))
                  clear hzw
                  go_wp2_with fail
                  go_quiet (fail)
                  go_wp2_with fail
                  go_roundw
                  case rel => exact ⟨j + 1, by rw [HP.out]; omega, by go_num, HE.out, below_drewN HB8.out _, HG8.out⟩
                  case measure => simp only [intOf]; have := HP.out; rw [this]; omega
                · have t5 : (z != lw) = true := by simp [hzw]
                  have HE := Lib.hid (HBAD.out (fun h => hzw (HW.out.1 h)))
                  clear hzw
                  go_wp2_with fail
                  go_quiet (fail)
                  go_wp2_with fail
                  go_ret
                  exact ⟨by rw [HE.out]; rfl, below_drewN HB8.out _⟩
            · have HS : Hid (∀ u, u < v + 1 → ∀ l ∈ g.ports.getD u [], BackOK g.ports u l) := fun u hu l hl => by
                by_cases e : u = v
                · subst e; refine HBK.out l ?_
                  rw [HP.out] at hl ⊢
                  rw [List.take_of_length_le (by omega)]
                  exact hl
                · exact HBACK.out u (by omega) l hl
              go_wp2_with fail
              go_roundw
              case rel => exact ⟨v + 1, by omega, by go_num, HS.out, HBQ.out, HGQ.out⟩
              case measure => simp [intOf]; omega
        · have HE : Hid (g.valid = true) := ref_good ⟨h1, h2, H3.out⟩ HALL.out fun u hu => HBACK.out u (by omega)
          go_wp2_with fail
          go_ret
          exact ⟨by rw [HE.out]; rfl, HBZ.out⟩
theorem refvalid_calls (w : World) (A0 : Option Addr) (c0 : Nat) (A1 : Option Addr) (c1 : Nat) (g : Graph) (hg : IsGraph w A0 c0 A1 c1 g) :
    Calls Try.prog 75 #[.agg #[.slice A0 g.ids.length c0, .slice A1 g.ports.length c1]] w fun e w' => e = .returned (.bool g.valid) ∧ Below w.heap.size w w' := by
  by_cases h : 1 ≤ g.ports.length ∧ g.ports.length ≤ 24 ∧ g.ids.length = g.ports.length
  · exact refvalid_late w A0 c0 A1 c1 g hg h.1 h.2.1 h.2.2
  · have HV := Lib.hid (valid_no h)
    by_cases h1 : 1 ≤ g.ports.length ∧ g.ports.length ≤ 24
    · have h3 : ¬ g.ids.length = g.ports.length := fun e => h ⟨h1.1, h1.2, e⟩
      have h3b : ((g.ids.length : Int) != (g.ports.length : Int)) = true := by rw [bne_iff_ne]; omega
      have T1 : Hid (inB (g.ports.length : Int) 1 24 = true) := decide_eq_true ⟨by omega, by omega⟩
      clear h h3
      go_enter Try.func75, Try.ntmps75
      go_wp2_with fail
      refine (in_calls _ _ _ _).mono ?_
      rintro e w1 ⟨rfl, rfl⟩
      rw [T1.out]
      go_wp2_with fail
      go_ret
      exact ⟨by rw [HV.out]; rfl, (Below.refl _ _).alloc (Nat.le_refl _) _⟩
    · have T1 : Hid (inB (g.ports.length : Int) 1 24 = false) := decide_eq_false fun h => h1 ⟨by omega, by omega⟩
      clear h h1
      go_enter Try.func75, Try.ntmps75
      go_wp2_with fail
      refine (in_calls _ _ _ _).mono ?_
      rintro e w1 ⟨rfl, rfl⟩
      rw [T1.out]
      go_wp2_with fail
      go_ret
      exact ⟨by rw [HV.out]; rfl, (Below.refl _ _).alloc (Nat.le_refl _) _⟩
/-! ### Neighbours, Independent -/
/-- The nodes of the first k that have a neighbour in the set. -/
def nbTo (g : Graph) (s k : Nat) : Nat := bitsOf (fun v => (g.ports.getD v []).any fun l => hasB s l.to_) k
theorem nbTo_neigh {g : Graph} (h : g.valid = true) (s : Nat) : nbTo g s g.ports.length = neighB g s := by
  unfold nbTo neighB
  rw [if_pos h]
  refine bitsOf_congr fun v hv => ?_
  have hn := (valid_size h).2.1
  cases ha : (g.ports.getD v []).any fun l => hasB s l.to_ with
  | true =>
    obtain ⟨l, hl, hb⟩ := List.any_eq_true.1 ha
    have hin := valid_link h hl
    simp only [hasB, Bool.and_eq_true, decide_eq_true_eq] at hb
    symm
    rw [decide_eq_true_eq]
    intro h0
    have h1 : (aroundB g v &&& s).testBit l.to_.toNat = false := by rw [h0]; simp
    rw [Nat.testBit_and, aroundB, testBit_bitsOf, hb.2, Bool.and_true] at h1
    have h2 : adj g v l.to_.toNat = true := List.any_eq_true.2 ⟨l, hl, by rw [decide_eq_true_eq]; omega⟩
    rw [h2, Bool.and_true, decide_eq_false_iff_not] at h1
    omega
  | false =>
    symm
    rw [decide_eq_false_iff_not, Classical.not_not]
    refine Nat.eq_of_testBit_eq fun u => ?_
    rw [Nat.testBit_and, aroundB, testBit_bitsOf, Nat.zero_testBit]
    cases hs : s.testBit u with
    | false => simp
    | true =>
      cases hu : decide (u < g.ports.length) with
      | false => simp
      | true =>
        rw [Bool.true_and, Bool.and_true]
        refine not_true fun hadj => ?_
        obtain ⟨l, hl, he⟩ := List.any_eq_true.1 hadj
        rw [decide_eq_true_eq] at he hu
        rw [List.any_eq_false] at ha
        refine ha l hl ?_
        simp only [hasB, Bool.and_eq_true, decide_eq_true_eq]
        rw [he, Int.toNat_natCast]
        exact ⟨by omega, hs⟩
set_option maxHeartbeats 8000000 in
set_option maxRecDepth 100000 in
theorem refneigh_calls (w : World) (A0 : Option Addr) (c0 : Nat) (A1 : Option Addr) (c1 : Nat) (g : Graph) (hg : IsGraph w A0 c0 A1 c1 g) (s : Nat) (hs : s < 4294967296) :
    Calls Try.prog 15 #[.agg #[.slice A0 g.ids.length c0, .slice A1 g.ports.length c1], .int .u32 s] w fun e w' => e = .returned (.int .u32 (neighB g s : Nat)) ∧ Below w.heap.size w w' := by
  have hg1 := hg.below ((Below.refl w.heap.size w).alloc (Nat.le_refl _) (.cells #[.slice A0 g.ids.length c0, .slice A1 g.ports.length c1] 27))
  have HG := Lib.hid hg
  clear hg
  cases hv : g.valid with
  | false =>
    have HE : Hid (neighB g s = 0) := by unfold Hid neighB; simp [hv]
    have HV := Lib.hid hv
    clear hv
    go_enter Try.func15, Try.ntmps15
    go_wp2_with fail
    refine (refvalid_calls _ _ _ _ _ _ hg1).mono ?_
    rintro e w1 ⟨rfl, hb1⟩
    rw [HV.out]
    obtain ⟨_, _, _, hbw⟩ := box2 hb1
    have HB := Lib.hid hbw
    clear hb1 hbw
    go_wp2_with fail
    go_ret
    exact ⟨by rw [HE.out]; rfl, HB.out⟩
  | true =>
    have HV := Lib.hid hv
    have hn := (valid_size hv).2.1
    clear hv
    go_enter Try.func15, Try.ntmps15
    go_wp2_with fail
    refine (refvalid_calls _ _ _ _ _ _ hg1).mono ?_
    rintro e w1 ⟨rfl, hb1⟩
    rw [HV.out]
    obtain ⟨d0, d1, hz1, hbw⟩ := box2 hb1
    have HB := Lib.hid hbw
    clear hb1 hbw hg1
    go_wp2_with fail
    go_loop [5, 6] (fun o i => ∃ v : Nat, v ≤ g.ports.length ∧ i = .int .i64 v ∧ o = .int .u32 (nbTo g s v : Nat)) (fun _ i => g.ports.length - (intOf i).toNat)
    case atStart => exact ⟨0, Nat.zero_le _, rfl, rfl⟩
    case round =>
      obtain ⟨v, hvl, rfl, rfl⟩ := hrel
      by_cases hlt : v < g.ports.length
      · obtain ⟨ad2, A4, c4, rfl, hcell, hl4, hC4⟩ := Kd.at_slice (HG.out.below HB.out).ports v hlt
        have HP : Hid (g.ports.getD v [] = g.ports[v]) := by unfold Hid; simp [List.getD_eq_getElem?_getD, hlt]
        generalize g.ports[v] = ps at hcell hl4 hC4 HP
        have hpm := Kd.C_max hC4
        have HC4 := Lib.hid hC4
        clear hC4
        have hS : nbTo g s v < 4294967296 := bitsOf_small (by omega)
        have HSV : Hid (nbTo g s (v + 1) = if ps.any (fun l => hasB s l.to_) then nbTo g s v ||| 2 ^ v else nbTo g s v) := by
          unfold Hid nbTo
          rw [bitsOf, HP.out]
        generalize nbTo g s v = S at hS HSV
        go_wp2_with fail
        go_loop [5, 7] (fun o i => ∃ j : Nat, j ≤ ps.length ∧ i = .int .i64 j ∧ o = .int .u32 ((if (ps.take j).any (fun l => hasB s l.to_) then S ||| 2 ^ v else S : Nat) : Int)) (fun _ i => ps.length - (intOf i).toNat)
        case atStart => exact ⟨0, Nat.zero_le _, rfl, by simp⟩
        case round =>
          obtain ⟨j, hj, rfl, rfl⟩ := hrel
          by_cases hjl : j < ps.length
          · obtain ⟨ad3, rfl, hx, hy⟩ := at_link HC4.out j hjl
            have HT : Hid ((ps.take (j + 1)).any (fun l => hasB s l.to_) = ((ps.take j).any (fun l => hasB s l.to_) || hasB s ps[j].to_)) := by
              unfold Hid
              rw [List.take_succ_eq_append_getElem hjl, List.any_append]
              simp
            generalize ps[j].wt = y at hy
            generalize ps[j].to_ = x at hx HT
            have h2v : (2 ^ v : Nat) < 4294967296 := (Nat.pow_lt_pow_right (by omega) (by omega) : 2 ^ v < 2 ^ 32)
            have hT : (if (ps.take j).any (fun l => hasB s l.to_) then S ||| 2 ^ v else S) < 4294967296 := by
              split
              · exact Nat.or_lt_two_pow (n := 32) hS h2v
              · exact hS
            have HOR : Hid ((if (ps.take j).any (fun l => hasB s l.to_) then S ||| 2 ^ v else S) ||| 2 ^ v = S ||| 2 ^ v) := by
              unfold Hid
              split
              · rw [Nat.or_assoc, Nat.or_self]
              · rfl
            generalize hpre : (ps.take j).any (fun l => hasB s l.to_) = pre at hT HT HOR ⊢
            clear hpre
            generalize hT0 : (if pre then S ||| 2 ^ v else S) = T at hT HOR ⊢
            have HT0 := Lib.hid hT0
            clear hT0
            go_wp2_with fail
            refine (has_calls _ s hs x).mono ?_
            rintro e w3 ⟨rfl, rfl⟩
            cases hb : hasB s x with
            | true =>
              have HBX := Lib.hid hb
              clear hb
              go_wp2_with fail
              go_round
              case rel => exact ⟨j + 1, by omega, by go_num, by rw [HT.out, HBX.out, Bool.or_true, if_pos rfl, shl1 (by omega), or_one hT (by omega), HOR.out]⟩
              case measure => simp [intOf]; omega
            | false =>
              have HBX := Lib.hid hb
              clear hb
              go_wp2_with fail
              go_round
              case rel => exact ⟨j + 1, by omega, by go_num, by rw [HT.out, HBX.out, Bool.or_false, HT0.out]⟩
              case measure => simp [intOf]; omega
          · have HE : Hid (ps.take j = ps) := List.take_of_length_le (by omega)
            rw [HE.out]
            go_wp2_with fail
            go_round
            case rel => exact ⟨v + 1, by omega, by go_num, by rw [HSV.out]⟩
            case measure => simp [intOf]; omega
      · have HE : Hid (nbTo g s v = neighB g s) := by
          unfold Hid
          rw [← nbTo_neigh HV.out]
          congr 1
          omega
        go_wp2_with fail
        go_ret
        exact ⟨by rw [← HE.out]; rfl, HB.out⟩
/-- Is the set an independent set of the graph? -/
def indepB (g : Graph) (s : Nat) : Bool := g.valid && decide (s &&& (4294967295 - (2 ^ g.ports.length - 1)) = 0) && decide (neighB g s &&& s = 0)
theorem zero_nat (a : Nat) : ((a : Int) == 0) = decide (a = 0) := beq_nat a 0
theorem nonzero_nat (a : Nat) : ((a : Int) != 0) = !decide (a = 0) := by rw [bne, zero_nat]
set_option maxHeartbeats 4000000 in
set_option maxRecDepth 100000 in
theorem refindep_calls (w : World) (A0 : Option Addr) (c0 : Nat) (A1 : Option Addr) (c1 : Nat) (g : Graph) (hg : IsGraph w A0 c0 A1 c1 g) (s : Nat) (hs : s < 4294967296) :
    Calls Try.prog 14 #[.agg #[.slice A0 g.ids.length c0, .slice A1 g.ports.length c1], .int .u32 s] w fun e w' => e = .returned (.bool (indepB g s)) ∧ Below w.heap.size w w' := by
  have hg1 := hg.below ((Below.refl w.heap.size w).alloc (Nat.le_refl _) (.cells #[.slice A0 g.ids.length c0, .slice A1 g.ports.length c1] 27))
  have HG := Lib.hid hg
  clear hg
  cases hv : g.valid with
  | false =>
    have HE : Hid (indepB g s = false) := by unfold Hid indepB; simp [hv]
    have HV := Lib.hid hv
    clear hv
    go_enter Try.func14, Try.ntmps14
    go_wp2_with fail
    refine (refvalid_calls _ _ _ _ _ _ hg1).mono ?_
    rintro e w1 ⟨rfl, hb1⟩
    rw [HV.out]
    obtain ⟨_, _, _, hbw⟩ := box2 hb1
    have HB := Lib.hid hbw
    clear hb1 hbw
    go_wp2_with fail
    go_ret
    exact ⟨by rw [HE.out]; rfl, HB.out⟩
  | true =>
    have HV := Lib.hid hv
    have hn := (valid_size hv).2.1
    have HA : Hid (allB (g.ports.length : Int) = 2 ^ g.ports.length - 1) := by
      unfold Hid allB
      rw [Int.toNat_natCast, Nat.min_eq_left (by omega)]
    have hal : 2 ^ g.ports.length - 1 < 4294967296 := all_lt (by omega)
    have HI : Hid (indepB g s = (decide (s &&& (4294967295 - (2 ^ g.ports.length - 1)) = 0) && decide (neighB g s &&& s = 0))) := by unfold Hid indepB; rw [hv, Bool.true_and]
    clear hv
    go_enter Try.func14, Try.ntmps14
    go_wp2_with fail
    refine (refvalid_calls _ _ _ _ _ _ hg1).mono ?_
    rintro e w1 ⟨rfl, hb1⟩
    rw [HV.out]
    obtain ⟨d0, d1, hz1, hbw⟩ := box2 hb1
    have HB := Lib.hid hbw
    clear hb1 hbw hg1
    go_wp2_with fail
    refine (all_calls _ _).mono ?_
    rintro e w3 ⟨rfl, rfl⟩
    rw [HA.out]
    have HAN : Hid (Go.bits .andNot .u32 (s : Int) ((2 ^ g.ports.length - 1 : Nat) : Int) = ((s &&& (4294967295 - (2 ^ g.ports.length - 1)) : Nat) : Int)) := u32_andNot_nat _ _ hs hal
    generalize 2 ^ g.ports.length - 1 = m at hal HAN HI
    have hZ := nonzero_nat (s &&& (4294967295 - m))
    rw [← HAN.out] at hZ
    cases hd : decide (s &&& (4294967295 - m) = 0) with
    | false =>
      rw [hd] at hZ
      have HE : Hid (indepB g s = false) := by rw [Hid, HI.out, hd]; rfl
      clear hd
      have hZ' : (Go.bits .andNot .u32 (s : Int) (m : Int) != 0) = true := hZ
      clear hZ
      go_wp2_with fail
      go_ret
      exact ⟨by rw [HE.out]; rfl, HB.out⟩
    | true =>
      rw [hd] at hZ
      have HE : Hid (indepB g s = decide (neighB g s &&& s = 0)) := by rw [Hid, HI.out, hd, Bool.true_and]
      clear hd
      have hZ' : (Go.bits .andNot .u32 (s : Int) (m : Int) != 0) = false := hZ
      clear hZ
      go_wp2_with fail
      refine (refneigh_calls _ _ _ _ _ _ (HG.out.below HB.out) s hs).mono ?_
      rintro e w4 ⟨rfl, hb4⟩
      have HB4 := Lib.hid (below_t HB.out hb4)
      clear hb4
      go_wp2_with fail
      go_ret
      refine ⟨?_, HB4.out⟩
      rw [HE.out, u32_and_nat _ _ neighB_lt hs, zero_nat]
      rfl
end Go.Proofs.Ythapikakneikbaa
/-
  selfstabref23.top, Config; selfstabref31.Ones.
-/
namespace Go.Proofs.Ythapikakneikbaa
open Go.RowKit
abbrev noVar : Var := ⟨default, 0, 0, 0, 0, 0⟩
theorem top_calls (w : World) (A0 : Option Addr) (c0 : Nat) (vP : Value) (ids : List Int) (hi : (Kd.int .i64).C w A0 ids) :
    Calls Try.prog 120 #[.agg #[.slice A0 ids.length c0, vP]] w fun e w' => e = .returned (.int .i64 (topOf ids)) ∧ Below w.heap.size w w' := by
  have hb0 := (Below.refl w.heap.size w).alloc (Nat.le_refl _) (.cells #[.slice A0 ids.length c0, vP] 27)
  have bG : (w.alloc (.cells #[.slice A0 ids.length c0, vP] 27)).heap[w.heap.size]? = some (.cells #[.slice A0 ids.length c0, vP] 27 (0, 0)) := blk_new rfl
  have hi1 := Kd.C_below hi hb0
  have him := Kd.C_max hi
  go_enter Try.func120, Try.ntmps120
  go_wp2_with fail
  generalize w.alloc _ = w1 at hb0 bG hi1 ⊢
  have HB0 := Lib.hid hb0
  have HI1 := Lib.hid hi1
  have cG0 := blk_cell (j := 0) (v := .slice A0 ids.length c0) bG rfl
  clear hb0 hi1 bG hi
  go_loop [3, 4] (fun a i => ∃ v : Nat, v ≤ ids.length ∧ i = .int .i64 v ∧ a = .int .i64 (topOf (ids.take v))) (fun _ i => ids.length - (intOf i).toNat)
  case atStart => exact ⟨0, Nat.zero_le _, rfl, rfl⟩
  case round =>
    obtain ⟨v, hv, rfl, rfl⟩ := hrel
    by_cases hlt : v < ids.length
    · obtain ⟨ad, rfl, hc⟩ := Kd.at_int HI1.out v hlt
      have HT := Lib.hid (topOf_take (ids := ids) (k := v) hlt)
      generalize ids[v] = y at hc HT
      generalize topOf (ids.take v) = t at HT
      go_wp2_with fail
      go_round
      case rel => exact ⟨v + 1, by omega, by go_num, by rw [HT.out]; congr 1; omega⟩
      case measure => simp [intOf]; omega
    · have HE : Hid (topOf (ids.take v) = topOf ids) := by unfold Hid; rw [List.take_of_length_le (by omega)]
      go_wp2_with fail
      go_ret
      exact ⟨by rw [← HE.out]; rfl, HB0.out⟩
def cellOK (g : Graph) (c : Conf) (vars : List Var) (v i : Nat) : Bool :=
  inB ((c.getD v []).getD i 0) (vars.getD i noVar).lo' ((vars.getD i noVar).hi' g.ports.length (topOf g.ids) (g.ports.getD v []).length)
def crowOK (g : Graph) (c : Conf) (vars : List Var) (v : Nat) : Bool := decide ((c.getD v []).length = vars.length) && (List.range vars.length).all fun i => cellOK g c vars v i
/-- c is a configuration of the variables on a valid graph. -/
def confB (g : Graph) (c : Conf) (vars : List Var) : Bool := g.valid && decide (c.length = g.ports.length) && (List.range g.ports.length).all fun v => crowOK g c vars v
theorem conf_bad {g : Graph} {c : Conf} {vars : List Var} (h : g.valid = false ∨ c.length ≠ g.ports.length ∨ ∃ v, v < g.ports.length ∧ crowOK g c vars v = false) : confB g c vars = false := not_true fun hb => by
  simp only [confB, Bool.and_eq_true, decide_eq_true_eq, List.all_eq_true, List.mem_range] at hb
  rcases h with h | h | ⟨v, hv, h⟩
  · rw [hb.1.1] at h; cases h
  · exact h hb.1.2
  · rw [hb.2 v hv] at h; cases h
theorem conf_good {g : Graph} {c : Conf} {vars : List Var} (h1 : g.valid = true) (h2 : c.length = g.ports.length) (h3 : ∀ v, v < g.ports.length → crowOK g c vars v = true) : confB g c vars = true := by
  simp only [confB, Bool.and_eq_true, decide_eq_true_eq, List.all_eq_true, List.mem_range]
  exact ⟨⟨h1, h2⟩, h3⟩
theorem crow_bad {g : Graph} {c : Conf} {vars : List Var} {v : Nat} (h : (c.getD v []).length ≠ vars.length ∨ ∃ i, i < vars.length ∧ cellOK g c vars v i = false) : crowOK g c vars v = false := not_true fun hb => by
  simp only [crowOK, Bool.and_eq_true, decide_eq_true_eq, List.all_eq_true, List.mem_range] at hb
  rcases h with h | ⟨i, hi, h⟩
  · exact h hb.1
  · rw [hb.2 i hi] at h; cases h
theorem crow_good {g : Graph} {c : Conf} {vars : List Var} {v : Nat} (h1 : (c.getD v []).length = vars.length) (h2 : ∀ i, i < vars.length → cellOK g c vars v i = true) : crowOK g c vars v = true := by
  simp only [crowOK, Bool.and_eq_true, decide_eq_true_eq, List.all_eq_true, List.mem_range]
  exact ⟨h1, h2⟩
set_option maxHeartbeats 1000000 in
/-- selfstabref31.Ones is shape.Where. -/
theorem ones_calls (w : World) (A : Option Addr) (k0 : Nat) (c : Conf) (x : Nat) (hc : kConf.C w A c) (hn : c.length ≤ 32) (hx : ∀ r ∈ c, x < r.length) :
    Calls Try.prog 86 #[.slice A c.length k0, .int .i64 x] w fun e w' => e = .returned (.int .u32 (whereB c x : Nat)) ∧ w = w' := by
  go_enter Try.func86, Try.ntmps86
  go_wp2_with fail
  go_loop [5, 6] (fun s i => ∃ k : Nat, k ≤ c.length ∧ i = .int .i64 k ∧ s = .int .u32 (bitsOf (fun v => decide (vl c v x = 1)) k : Nat)) (fun _ i => c.length - (intOf i).toNat)
  case atStart => exact ⟨0, Nat.zero_le _, rfl, rfl⟩
  case round =>
    obtain ⟨k, hk, rfl, rfl⟩ := hrel
    by_cases hlt : k < c.length
    · obtain ⟨ad, A2, c2, hA, hcell, hl2, hC2⟩ := Kd.at_slice hc k hlt
      cases hA
      have hxl := hx _ (List.getElem_mem hlt)
      obtain ⟨ad2, hA2, hcell2⟩ := Kd.at_int hC2 x hxl
      have HVL := Lib.hid (vl_at hlt hxl)
      generalize c[k][x] = y at hcell2 HVL
      generalize hr : c[k] = r at hcell hl2 hC2 hxl
      have hrm := Kd.C_max hC2
      cases hA2
      have hb := bitsOf_small (p := fun v => decide (vl c v x = 1)) (n := k) (by omega)
      have HB : Hid (bitsOf (fun v => decide (vl c v x = 1)) (k + 1) = if y = 1 then bitsOf (fun v => decide (vl c v x = 1)) k ||| 2 ^ k else bitsOf (fun v => decide (vl c v x = 1)) k) := by
        unfold Hid; rw [bitsOf, HVL.out]; simp
      clear hr hx hc hC2
      generalize bitsOf (fun v => decide (vl c v x = 1)) k = S at hb HB
      by_cases hy : y = 1
      · have hyb : (y == 1) = true := by simp [hy]
        have HY := Lib.hid hy
        clear hy
        go_wp2_with fail
        go_round
        case rel => exact ⟨k + 1, by omega, by go_num, by rw [HB.out, if_pos HY.out, shl1 (by omega), or_one hb (by omega)]⟩
        case measure => simp [intOf]; omega
      · have hyb : (y == 1) = false := by simp [hy]
        have HY := Lib.hid hy
        clear hy
        go_wp2_with fail
        go_round
        case rel => exact ⟨k + 1, by omega, by go_num, by rw [HB.out, if_neg HY.out]⟩
        case measure => simp [intOf]; omega
    · have HE := Lib.hid (show k = c.length by omega)
      go_wp2_with fail
      go_ret
      exact ⟨by rw [HE.out]; rfl, rfl⟩
set_option maxHeartbeats 8000000 in
set_option maxRecDepth 100000 in
theorem refconf_calls (w : World) (A0 : Option Addr) (c0 : Nat) (A1 : Option Addr) (c1 : Nat) (g : Graph) (hg : IsGraph w A0 c0 A1 c1 g) (A2 : Option Addr) (c2 : Nat) (c : Conf) (hc : kConf.C w A2 c) (AV : Option Addr) (cV : Nat) (vars : List Var) (hv : kVar.C w AV vars) (hv1 : vars.length ≤ 100) (hvs : ∀ v ∈ vars, v.Small) :
    Calls Try.prog 83 #[.agg #[.slice A0 g.ids.length c0, .slice A1 g.ports.length c1], .slice A2 c.length c2, .slice AV vars.length cV] w fun e w' => e = .returned (.bool (confB g c vars)) ∧ Below w.heap.size w w' := by
  have hg1 := hg.below ((Below.refl w.heap.size w).alloc (Nat.le_refl _) (.cells #[.slice A0 g.ids.length c0, .slice A1 g.ports.length c1] 27))
  have HG := Lib.hid hg
  have HC := Lib.hid hc
  have HVV := Lib.hid hv
  have HVS := Lib.hid hvs
  have hcm := Kd.C_max hc
  clear hg hc hv hvs
  cases hV : g.valid with
  | false =>
    have HE : Hid (confB g c vars = false) := conf_bad (.inl hV)
    have HV := Lib.hid hV
    clear hV
    go_enter Try.func83, Try.ntmps83
    go_wp2_with fail
    refine (refvalid_calls _ _ _ _ _ _ hg1).mono ?_
    rintro e w1 ⟨rfl, hb1⟩
    rw [HV.out]
    obtain ⟨_, _, _, hbw⟩ := box2 hb1
    have HB := Lib.hid hbw
    clear hb1 hbw
    go_wp2_with fail
    go_ret
    exact ⟨by rw [HE.out]; rfl, HB.out⟩
  | true =>
    have HV := Lib.hid hV
    obtain ⟨hn1, hn2, hn3⟩ := valid_size hV
    have hids := ((valid_iff g).1 hV).2.1
    have HTB : Hid (0 ≤ topOf g.ids ∧ topOf g.ids ≤ 255) := topOf_bd fun x hx => by have := hids x hx; simpa [okID] using this
    have HN3 := Lib.hid hn3
    clear hV hn3 hids
    by_cases hlen : c.length = g.ports.length
    · have t1 : ((c.length : Int) != (g.ports.length : Int)) = false := by rw [hlen]; simp
      have HLEN := Lib.hid hlen
      clear hlen
      go_enter Try.func83, Try.ntmps83
      go_wp2_with fail
      have bG : (w.alloc (.cells #[.slice A0 g.ids.length c0, .slice A1 g.ports.length c1] 27)).heap[w.heap.size]? = some (.cells #[.slice A0 g.ids.length c0, .slice A1 g.ports.length c1] 27 (0, 0)) := blk_new rfl
      have hb0 := (Below.refl w.heap.size w).alloc (Nat.le_refl _) (.cells #[.slice A0 g.ids.length c0, .slice A1 g.ports.length c1] 27)
      refine (refvalid_calls _ _ _ _ _ _ hg1).mono ?_
      rintro e w1 ⟨rfl, hb1⟩
      rw [HV.out]
      have HB1 := Lib.hid (hb0.trans (hb1.mono (by simp)))
      have HBG1 := Lib.hid (blk_below bG hb1)
      clear hb1 hb0 bG hg1
      go_wp2_with fail
      clear t1
      go_loopw [8] (fun j wr => ∃ v : Nat, v ≤ g.ports.length ∧ j = .int .i64 v ∧ (∀ u, u < v → crowOK g c vars u = true) ∧ Below w.heap.size w wr ∧ wr.heap[w.heap.size]? = some (.cells #[.slice A0 g.ids.length c0, .slice A1 g.ports.length c1] 27 (0, 0))) (fun j _ => g.ports.length - (intOf j).toNat)
      case atStart => exact ⟨0, Nat.zero_le _, rfl, fun _ h => absurd h (Nat.not_lt_zero _), HB1.out, HBG1.out⟩
      case round =>
        obtain ⟨wz, rfl⟩ : ∃ wz : World, wz = wr := ⟨_, rfl⟩
        obtain ⟨v, hvn, rfl, hrow, hbz, hgz⟩ := hrel
        have HROW := Lib.hid hrow
        have HBZ := Lib.hid hbz
        have HGZ := Lib.hid hgz
        clear hrow hbz hgz HB1 HBG1
        by_cases hlt : v < g.ports.length
        · have hvc : v < c.length := by have := HLEN.out; omega
          obtain ⟨ad, AR, cR, rfl, hcell, hlr, hCr⟩ := Kd.at_slice (Kd.C_below HC.out HBZ.out) v hvc
          have HRW : Hid (c.getD v [] = c[v]) := by unfold Hid; simp [List.getD_eq_getElem?_getD, hvc]
          generalize c[v] = row at hcell hlr hCr HRW
          have hrm := Kd.C_max hCr
          have HCr := Lib.hid hCr
          clear hCr
          have hvL : (v : Int) < (c.length : Int) := by omega
          by_cases hwid : row.length = vars.length
          · have t2 : ((row.length : Int) != (vars.length : Int)) = false := by rw [hwid]; simp
            have HWID := Lib.hid hwid
            clear hwid
            go_wp2_with fail
            clear t2 hcell
            go_loopw [9] (fun j wr => ∃ i : Nat, i ≤ vars.length ∧ j = .int .i64 i ∧ (∀ u, u < i → cellOK g c vars v u = true) ∧ Below w.heap.size w wr ∧ wr.heap[w.heap.size]? = some (.cells #[.slice A0 g.ids.length c0, .slice A1 g.ports.length c1] 27 (0, 0))) (fun j _ => vars.length - (intOf j).toNat)
            case atStart => exact ⟨0, Nat.zero_le _, rfl, fun _ h => absurd h (Nat.not_lt_zero _), HBZ.out, HGZ.out⟩
            case round =>
              obtain ⟨wq, rfl⟩ : ∃ wq : World, wq = wr := ⟨_, rfl⟩
              obtain ⟨i, hi, rfl, hok, hbq, hgq⟩ := hrel
              have HOK := Lib.hid hok
              have HBQ := Lib.hid hbq
              have HGQ := Lib.hid hgq
              have cG0 := blk_cell (j := 0) (v := .slice A0 g.ids.length c0) hgq rfl
              have cG1 := blk_cell (j := 1) (v := .slice A1 g.ports.length c1) hgq rfl
              clear hok hbq hgq
              by_cases hil : i < vars.length
              · obtain ⟨adv, rfl, ck, cl, ch, cn, cp⟩ := at_var (Kd.C_below HVV.out HBQ.out) i hil
                have hsm := HVS.out vars[i] (List.getElem_mem hil)
                have hir : i < row.length := by have := HWID.out; omega
                have HX : Hid (vars.getD i noVar = vars[i]) := by unfold Hid; simp [List.getD_eq_getElem?_getD, hil]
                have HD : Hid (g.ports.getD v [] = g.ports[v]) := by unfold Hid; simp [List.getD_eq_getElem?_getD, hlt]
                have HZ : Hid (row.getD i 0 = row[i]) := by unfold Hid; simp [List.getD_eq_getElem?_getD, hir]
                have hpr := row_short HV.out hlt
                rw [HD.out] at hpr
                generalize hx : vars[i] = x at ck cl ch cn cp hsm HX
                generalize hpr0 : g.ports[v] = pr at hpr HD
                generalize hz : row[i] = z at HZ
                have HZ2 : Hid (∀ h : i < row.length, row[i] = z) := fun _ => hz
                have HP2 : Hid (∀ h : v < g.ports.length, g.ports[v] = pr) := fun _ => hpr0
                have HX2 : Hid (∀ h : i < vars.length, vars[i] = x) := fun _ => hx
                clear hz hpr0 hx
                have htb := HTB.out
                obtain ⟨tp, htp⟩ : ∃ t, topOf g.ids = t := ⟨_, rfl⟩
                have HTP := Lib.hid htp
                rw [htp] at htb
                clear htp
                obtain ⟨p1, hp1⟩ : ∃ p, x.pn * (g.ports.length : Int) = p := ⟨_, rfl⟩
                obtain ⟨p2, hp2⟩ : ∃ p, x.pid * tp = p := ⟨_, rfl⟩
                have b1 : 0 ≤ p1 ∧ p1 ≤ 2400 := by
                  rw [← hp1]
                  refine ⟨Int.mul_nonneg hsm.pn.1 (by omega), ?_⟩
                  have := Int.mul_le_mul hsm.pn.2 (show (g.ports.length : Int) ≤ 24 by omega) (by omega) (by omega)
                  omega
                have b2 : 0 ≤ p2 ∧ p2 ≤ 25500 := by
                  rw [← hp2]
                  refine ⟨Int.mul_nonneg hsm.pid.1 htb.1, ?_⟩
                  have := Int.mul_le_mul hsm.pid.2 htb.2 htb.1 (by omega)
                  omega
                obtain ⟨s1, s2, s3, s4⟩ := hsm
                have HCELL : Hid (∀ lo hi : Int, lo = x.lo' → hi = x.hi' g.ports.length tp pr.length → cellOK g c vars v i = inB z lo hi) := by
                  rintro lo hi rfl rfl
                  unfold cellOK
                  rw [HX.out, HD.out, HTP.out, HRW.out, HZ.out]
                have HBAD : Hid (cellOK g c vars v i = false → confB g c vars = false) := fun h => conf_bad (.inr (.inr ⟨v, hlt, crow_bad (.inr ⟨i, hil, h⟩)⟩))
                have HNX : Hid (cellOK g c vars v i = true → ∀ u, u < i + 1 → cellOK g c vars v u = true) := fun h u hu => by
                  by_cases e : u = i
                  · rw [e]; exact h
                  · exact HOK.out u (by omega)
                have HIQ : Hid ((Kd.int .i64).C wq.drew A0 g.ids) := Kd.C_keep (HG.out.below HBQ.out).ids (fun _ _ => rfl)
                have HBD : Hid (Below w.heap.size w wq.drew) := below_drew HBQ.out
                have HGD : Hid (wq.drew.heap[w.heap.size]? = some (.cells #[.slice A0 g.ids.length c0, .slice A1 g.ports.length c1] 27 (0, 0))) := HGQ.out
                clear HX HD HZ
                go_wp2_with fail
                have q1 : IntKind.i64.wrap p1 = p1 := IntWalk.i64_in _ (by omega)
                have q2 : IntKind.i64.wrap p2 = p2 := IntWalk.i64_in _ (by omega)
                have q3 : IntKind.i64.wrap (x.hi + p1) = x.hi + p1 := IntWalk.i64_in _ (by omega)
                have q4 : IntKind.i64.wrap (x.hi + p1 + p2) = x.hi + p1 + p2 := IntWalk.i64_in _ (by omega)
                have k1 : (i : Int) < (vars.length : Int) := by omega
                have k2 : (0 : Int) ≤ (i : Int) := by omega
                go_region_held3 (fun w' => w'.cell? ⟨w.heap.size, 0, none⟩ = some (.slice A0 g.ids.length c0) ∧ w'.cell? ⟨w.heap.size, 1, none⟩ = some (.slice A1 g.ports.length c1) ∧ w'.cell? ⟨(adv.add (i * 6)).block, (adv.add (i * 6)).off + 2, none⟩ = some (.int .i64 x.lo) ∧ w'.cell? ⟨(adv.add (i * 6)).block, (adv.add (i * 6)).off + 3, none⟩ = some (.int .i64 x.hi) ∧ w'.cell? ⟨(adv.add (i * 6)).block, (adv.add (i * 6)).off + 4, none⟩ = some (.int .i64 x.pn) ∧ w'.cell? ⟨(adv.add (i * 6)).block, (adv.add (i * 6)).off + 5, none⟩ = some (.int .i64 x.pid))
                  (first | exact ⟨cG0, cG1, cl, ch, cn, cp⟩ | exact ⟨d0, d1, el, eh, en, ep⟩)
                  (first
                    | (go_at_call 120
                       refine (top_calls _ _ _ _ g.ids HIQ.out).mono ?_
                       rintro e w3 ⟨rfl, hb3⟩
                       rw [HTP.out]
                       have HB3 := Lib.hid (HBD.out.trans (hb3.mono HBD.out.size))
                       have hbg3 := blk_below HGD.out hb3
                       have HBG3 := Lib.hid hbg3
                       have d0 := blk_cell (j := 0) (v := .slice A0 g.ids.length c0) hbg3 rfl
                       have d1 := blk_cell (j := 1) (v := .slice A1 g.ports.length c1) hbg3 rfl
                       obtain ⟨adw, hadw, ek, el, eh, en, ep⟩ := at_var (Kd.C_below HVV.out HB3.out) i hil
                       cases hadw
                       rw [HX2.out hil] at ek el eh en ep
                       clear hb3 hbg3))
                clear q1 q2 q3 q4 cG0 cG1 ck cl ch cn cp
                obtain ⟨ad2, AR2, cR2, hA2, hcell, _, hCr3⟩ := Kd.at_slice (Kd.C_below HC.out HB3.out) v hvc
                cases hA2
                have hcv : c[v] = row := by have := HRW.out; rw [List.getD_eq_getElem?_getD, List.getElem?_eq_getElem hvc] at this; exact this
                rw [hcv] at hcell hCr3
                obtain ⟨ad4, rfl, hcz⟩ := Kd.at_int hCr3 i hir
                rw [HZ2.out hir] at hcz
                obtain ⟨ad5, AP5, cP5, rfl, hcp5, _, _⟩ := Kd.at_slice (HG.out.below HB3.out).ports v hlt
                rw [HP2.out hlt] at hcp5
                clear hCr3 hcv
                have k3 : (v : Int) < (g.ports.length : Int) := by omega
                have k5 : (i : Int) < (row.length : Int) := by omega
                by_cases e2 : x.kind = 2
                · have t2 : (x.kind == 2) = true := by simp [e2]
                  have L2 := Lib.hid e2
                  clear e2
                  have HCO : Hid (cellOK g c vars v i = inB z (0) (1)) := HCELL.out _ _ (by unfold Var.lo'; rw [if_pos L2.out]) (by unfold Var.hi'; rw [if_pos L2.out])
                  go_wp2_with fail
                  refine (in_calls _ _ _ _).mono ?_
                  rintro e w7 ⟨rfl, rfl⟩
                  cases hin : inB z (0) (1) with
                  | false =>
                    have HE := Lib.hid (HBAD.out (HCO.out.trans hin))
                    clear hin
                    go_wp2_with fail
                    go_ret
                    exact ⟨by rw [HE.out]; rfl, HB3.out⟩
                  | true =>
                    have HE := Lib.hid (HNX.out (HCO.out.trans hin))
                    clear hin
                    go_wp2_with fail
                    go_roundw
                    case rel => exact ⟨i + 1, by omega, by go_num, HE.out, HB3.out, HBG3.out⟩
                    case measure => simp [intOf]; omega
                · have t2 : (x.kind == 2) = false := by simp [e2]
                  have L2 := Lib.hid e2
                  clear e2
                  by_cases e3 : x.kind = 3
                  · have t3 : (x.kind == 3) = true := by simp [e3]
                    have L3 := Lib.hid e3
                    clear e3
                    have HCO : Hid (cellOK g c vars v i = inB z (-1) ((pr.length : Int) - 1)) := HCELL.out _ _ (by unfold Var.lo'; rw [if_neg L2.out, if_pos L3.out]) (by unfold Var.hi'; rw [if_neg L2.out, if_pos L3.out])
                    go_wp2_with fail
                    have q5 : IntKind.i64.wrap ((pr.length : Int) - 1) = (pr.length : Int) - 1 := IntWalk.i64_in _ (by omega)
                    have k3 : (v : Int) < (g.ports.length : Int) := by omega
                    have k4 : (0 : Int) ≤ (v : Int) := by omega
                    go_quiet (fail)
                    clear q5
                    go_wp2_with fail
                    refine (in_calls _ _ _ _).mono ?_
                    rintro e w7 ⟨rfl, rfl⟩
                    cases hin : inB z (-1) ((pr.length : Int) - 1) with
                    | false =>
                      have HE := Lib.hid (HBAD.out (HCO.out.trans hin))
                      clear hin
                      go_wp2_with fail
                      go_ret
                      exact ⟨by rw [HE.out]; rfl, below_drewN HB3.out _⟩
                    | true =>
                      have HE := Lib.hid (HNX.out (HCO.out.trans hin))
                      clear hin
                      go_wp2_with fail
                      go_roundw
                      case rel => exact ⟨i + 1, by omega, by go_num, HE.out, below_drewN HB3.out _, HBG3.out⟩
                      case measure => simp [intOf]; omega
                  · have t3 : (x.kind == 3) = false := by simp [e3]
                    have L3 := Lib.hid e3
                    clear e3
                    have HCO : Hid (cellOK g c vars v i = inB z (x.lo) (x.hi + p1 + p2)) := HCELL.out _ _ (by unfold Var.lo'; rw [if_neg L2.out, if_neg L3.out]) (by unfold Var.hi'; rw [if_neg L2.out, if_neg L3.out, hp1, hp2])
                    go_wp2_with fail
                    refine (in_calls _ _ _ _).mono ?_
                    rintro e w7 ⟨rfl, rfl⟩
                    cases hin : inB z (x.lo) (x.hi + p1 + p2) with
                    | false =>
                      have HE := Lib.hid (HBAD.out (HCO.out.trans hin))
                      clear hin
                      go_wp2_with fail
                      go_ret
                      exact ⟨by rw [HE.out]; rfl, HB3.out⟩
                    | true =>
                      have HE := Lib.hid (HNX.out (HCO.out.trans hin))
                      clear hin
                      go_wp2_with fail
                      go_roundw
                      case rel => exact ⟨i + 1, by omega, by go_num, HE.out, HB3.out, HBG3.out⟩
                      case measure => simp [intOf]; omega
              · have HS : Hid (∀ u, u < v + 1 → crowOK g c vars u = true) := fun u hu => by
                  by_cases e : u = v
                  · rw [e]; exact crow_good (by rw [HRW.out]; exact HWID.out) fun i hi => HOK.out i (by omega)
                  · exact HROW.out u (by omega)
                go_wp2_with fail
                go_roundw
                case rel => exact ⟨v + 1, by omega, by go_num, HS.out, HBQ.out, HGQ.out⟩
                case measure => simp [intOf]; omega
          · have t2 : ((row.length : Int) != (vars.length : Int)) = true := by rw [bne_iff_ne]; omega
            have HE : Hid (confB g c vars = false) := conf_bad (.inr (.inr ⟨v, hlt, crow_bad (.inl (by rw [HRW.out]; exact hwid))⟩))
            clear hwid
            go_wp2_with fail
            go_ret
            exact ⟨by rw [HE.out]; rfl, HBZ.out⟩
        · have HE : Hid (confB g c vars = true) := conf_good HV.out HLEN.out fun u hu => HROW.out u (by omega)
          go_wp2_with fail
          go_ret
          exact ⟨by rw [HE.out]; rfl, HBZ.out⟩
    · have t1 : ((c.length : Int) != (g.ports.length : Int)) = true := by rw [bne_iff_ne]; omega
      have HE : Hid (confB g c vars = false) := conf_bad (.inr (.inl hlen))
      clear hlen
      go_enter Try.func83, Try.ntmps83
      go_wp2_with fail
      refine (refvalid_calls _ _ _ _ _ _ hg1).mono ?_
      rintro e w1 ⟨rfl, hb1⟩
      rw [HV.out]
      obtain ⟨_, _, _, hbw⟩ := box2 hb1
      have HB := Lib.hid hbw
      clear hb1 hbw
      go_wp2_with fail
      go_ret
      exact ⟨by rw [HE.out]; rfl, HB.out⟩
end Go.Proofs.Ythapikakneikbaa
/-
  As Bridge, beside the contract of selfstabref23.Config: configurations and variables.
-/
namespace Go.Proofs.YthapikakneikbaaG
open Go.RowKit
def toV (x : S51) : Go.Proofs.Ythapikakneikbaa.Var := ⟨x.f0, x.f1, x.f2, x.f3, x.f4, x.f5⟩
theorem Br.var : Br k51 Go.Proofs.Ythapikakneikbaa.kVar toV := ⟨rfl, fun h => k51_open h⟩
/-- A variable of the programs: its numbers are small. -/
def smallV (x : S51) : Bool := decide ((-1000 ≤ x.f2 ∧ x.f2 ≤ 1000) ∧ (-1000 ≤ x.f3 ∧ x.f3 ≤ 1000) ∧ (0 ≤ x.f4 ∧ x.f4 ≤ 100) ∧ (0 ≤ x.f5 ∧ x.f5 ≤ 100))
theorem smallV_is {x : S51} (h : smallV x = true) : (toV x).Small := by
  have h := of_decide_eq_true h
  exact ⟨h.1, h.2.1, h.2.2.1, h.2.2.2⟩
end Go.Proofs.YthapikakneikbaaG
/-
  Plain laws: a configuration by the references' words (Config) is one by the services' words (shape.Holds).
-/
namespace Go.Proofs.YthapikakneikbaaG
open Go.RowKit
open Go.Proofs.Ythapikakneikbaa (holdsB confB inRange rowOK cellOK crowOK inB topOf noVar)
/-- What a variable's greatest value is for shape.Holds. -/
def mostOf (n : Nat) (top : Int) (x : Go.Proofs.Ythapikakneikbaa.Var) : Int := if x.kind = 2 then 1 else if x.kind = 3 then -1 else x.hi + x.pn * n + x.pid * top
theorem conf_holds {g : Go.Proofs.Ythapikakneikbaa.Graph} {c : Go.Proofs.Ythapikakneikbaa.Conf} {vars : List Go.Proofs.Ythapikakneikbaa.Var} {most : List Int} (hv : g.valid = true) (hm : most = vars.map (mostOf g.ports.length (topOf g.ids)))
    (h : ∀ x ∈ vars, x.kind = 3 ∨ (x.kind = 2 ∨ x.lo = 0) ∧ mostOf g.ports.length (topOf g.ids) x ≠ -1) : confB g c vars = holdsB g c most := by
  subst hm
  unfold confB holdsB
  rw [hv, Bool.true_and]
  by_cases hl : c.length = g.ports.length
  · have e1 : (c.length == g.ports.length) = true := by simp [hl]
    rw [decide_eq_true hl, e1, Bool.true_and, Bool.true_and, hl, Bool.eq_iff_iff, List.all_eq_true, List.all_eq_true]
    refine forall_congr' fun v => forall_congr' fun hv => ?_
    unfold crowOK rowOK
    rw [List.length_map]
    generalize hr : c.getD v [] = r
    by_cases hrl : r.length = vars.length
    · have e2 : (r.length == vars.length) = true := by simp [hrl]
      rw [decide_eq_true hrl, e2, Bool.true_and, Bool.true_and, hrl, List.all_eq_true, List.all_eq_true]
      refine forall_congr' fun i => forall_congr' fun hi => ?_
      rw [List.mem_range] at hi
      have hx := h _ (List.getElem_mem hi)
      unfold cellOK inRange inB
      rw [hr]
      have g1 : vars.getD i noVar = vars[i] := by rw [List.getD_eq_getElem?_getD, List.getElem?_eq_getElem hi]; rfl
      have g2 : (vars.map (mostOf g.ports.length (topOf g.ids))).getD i 0 = mostOf g.ports.length (topOf g.ids) vars[i] := by rw [List.getD_eq_getElem?_getD, List.getElem?_map, List.getElem?_eq_getElem hi]; rfl
      rw [g1, g2]
      generalize vars[i] = x at hx
      unfold Go.Proofs.Ythapikakneikbaa.Var.lo' Go.Proofs.Ythapikakneikbaa.Var.hi'
      unfold mostOf at hx ⊢
      by_cases k2 : x.kind = 2
      · simp [k2]
      · by_cases k3 : x.kind = 3
        · simp only [if_neg k2, if_pos k3, if_true, decide_eq_true_eq]
          omega
        · rcases hx with hx | ⟨hx, hy⟩
          · exact absurd hx k3
          · rcases hx with hx | hx
            · exact absurd hx k2
            · simp only [if_neg k2, if_neg k3] at hy ⊢
              rw [if_neg hy, hx]
    · have e2 : (r.length == vars.length) = false := by simp [hrl]
      rw [decide_eq_false hrl, e2, Bool.false_and, Bool.false_and]
  · have e1 : (c.length == g.ports.length) = false := by simp [hl]
    rw [decide_eq_false hl, e1, Bool.false_and, Bool.false_and]
theorem conf_invalid {g : Go.Proofs.Ythapikakneikbaa.Graph} {c : Go.Proofs.Ythapikakneikbaa.Conf} {vars : List Go.Proofs.Ythapikakneikbaa.Var} (hv : g.valid = false) : confB g c vars = false := by
  unfold confB
  rw [hv, Bool.false_and, Bool.false_and]
/-- What shape.Holds says: the number of states, and each state's length. -/
theorem holds_rows {g : Go.Proofs.Ythapikakneikbaa.Graph} {c : Go.Proofs.Ythapikakneikbaa.Conf} {most : List Int} (h : holdsB g c most = true) : c.length = g.ports.length ∧ ∀ v, v < c.length → (c.getD v []).length = most.length ∧ ∀ x, x < most.length → inRange (g.ports.getD v []).length (most.getD x 0) ((c.getD v []).getD x 0) = true := by
  unfold holdsB at h
  rw [Bool.and_eq_true, beq_iff_eq, List.all_eq_true] at h
  refine ⟨h.1, fun v hv => ?_⟩
  have h2 := h.2 v (List.mem_range.2 hv)
  unfold rowOK at h2
  rw [Bool.and_eq_true, beq_iff_eq, List.all_eq_true] at h2
  exact ⟨h2.1, fun x hx => h2.2 x (List.mem_range.2 (by omega))⟩
theorem all_rows {c : List (List Int)} {m : Nat} (h : ∀ v, v < c.length → (c.getD v []).length = m) {x : Nat} (hx : x < m) : (c.all fun r => decide (x < r.length)) = true := by
  rw [List.all_eq_true]
  intro r hr
  obtain ⟨i, hi, rfl⟩ := List.mem_iff_getElem.1 hr
  have := h i hi
  rw [List.getD_eq_getElem?_getD, List.getElem?_eq_getElem hi] at this
  simp only [Option.getD_some] at this
  simp [this, hx]
end Go.Proofs.YthapikakneikbaaG
namespace Go.Proofs.YthapikakneikbaaG
open Go.RowKit Go.Proofs.YthapikakneikbaaW.PrintWords Go.Proofs.YthapikakneikbaaW.PrintLast Go.Proofs.YthapikakneikbaaW.PrintMore
attribute [local go_sem] max2_int min2_int max_two min_two max_three min_three max_four min_four   -- for this text's walks alone
set_option linter.unusedVariables false
set_option linter.unusedSimpArgs false
theorem eqA44 (d : Nat) (w : World) (x0 y0 : Int) (x1 y1 : Bool) (x2 y2 : Bool) (x3 y3 : Int) (x4 y4 : Int) :
  (Op.equalIn (d + 2) 44 (.agg #[.int .i64 x0, .bool x1, .bool x2, .int .i64 x3, .int .i64 x4]) (.agg #[.int .i64 y0, .bool y1, .bool y2, .int .i64 y3, .int .i64 y4])).run Try.prog w = .ok (x0 == y0 && (x1 == y1 && (x2 == y2 && (x3 == y3 && (x4 == y4))))) w := by
 refine eqA_of Try.underlying44 (by kernel_rfl) ?_
 refine eqf_cons (by rfl) (by go_simp; rfl) (by go_simp; rfl) (by go_simp) ?_
 refine eqf_cons (by rfl) (by go_simp; rfl) (by go_simp; rfl) (by go_simp) ?_
 refine eqf_cons (by rfl) (by go_simp; rfl) (by go_simp; rfl) (by go_simp) ?_
 refine eqf_cons (by rfl) (by go_simp; rfl) (by go_simp; rfl) (by go_simp) ?_
 exact eqf_last (by rfl) (by go_simp; rfl) (by go_simp; rfl) (by go_simp)
end Go.Proofs.YthapikakneikbaaG
namespace Go.Proofs.YthapikakneikbaaG
open Go.RowKit Go.Proofs.YthapikakneikbaaW.PrintWords Go.Proofs.YthapikakneikbaaW.PrintLast Go.Proofs.YthapikakneikbaaW.PrintMore
attribute [local go_sem] max2_int min2_int max_two min_two max_three min_three max_four min_four   -- for this text's walks alone
set_option linter.unusedVariables false
set_option linter.unusedSimpArgs false
/-! ### graph_Valid: function 80 -/
def graph_Valid.f (l0_0 : List Int) (l0_1 : List (List (S60))) : Option (Bool) := some (toG l0_0 l0_1).valid
theorem graph_Valid.calls (A0_0 : Option Addr) (c0_0 : Nat) (l0_0 : List Int) (A0_1 : Option Addr) (c0_1 : Nat) (l0_1 : List (List (S60))) (r : Bool) (w : World) (hr0_0 : Kd.C (Kd.int .i64) w A0_0 l0_0.length l0_0) (hc0_0 : l0_0.length ≤ c0_0) (hr0_1 : Kd.C (Kd.slice 60 k60) w A0_1 l0_1.length l0_1) (hc0_1 : l0_1.length ≤ c0_1) (h : graph_Valid.f l0_0 l0_1 = some r) :
  Calls Try.prog 80 #[.agg #[.slice A0_0 l0_0.length c0_0, .slice A0_1 l0_1.length c0_1]] w fun e w' => e = .returned (.bool r) ∧ Below w.heap.size w w' := by
 obtain rfl : (toG l0_0 l0_1).valid = r := by simpa [graph_Valid.f] using h
 have hv := Go.Proofs.Ythapikakneikbaa.valid_calls w A0_0 c0_0 A0_1 c0_1 (toG l0_0 l0_1) (isGraph hr0_0 hc0_0 hr0_1 hc0_1)
 have e1 : (toG l0_0 l0_1).ports.length = l0_1.length := by simp [toG]
 rw [e1] at hv
 exact hv
end Go.Proofs.YthapikakneikbaaG
namespace Go.Proofs.YthapikakneikbaaG
open Go.RowKit Go.Proofs.YthapikakneikbaaW.PrintWords Go.Proofs.YthapikakneikbaaW.PrintLast Go.Proofs.YthapikakneikbaaW.PrintMore
attribute [local go_sem] max2_int min2_int max_two min_two max_three min_three max_four min_four   -- for this text's walks alone
set_option linter.unusedVariables false
set_option linter.unusedSimpArgs false
/-! ### independent_Fit: function 30 -/
def independent_Fit.f (l0_0 : List Int) (l0_1 : List (List (S60))) : Option (Bool) := (graph_Valid.f l0_0 l0_1).bind fun t310 => (some t310)
set_option maxHeartbeats 8000000 in
set_option maxRecDepth 100000 in
theorem independent_Fit.calls (A0_0 : Option Addr) (c0_0 : Nat) (l0_0 : List Int) (A0_1 : Option Addr) (c0_1 : Nat) (l0_1 : List (List (S60))) (r : Bool) (w : World) (hr0_0 : Kd.C (Kd.int .i64) w A0_0 l0_0.length l0_0) (hc0_0 : l0_0.length ≤ c0_0) (hr0_1 : Kd.C (Kd.slice 60 k60) w A0_1 l0_1.length l0_1) (hc0_1 : l0_1.length ≤ c0_1) (h : independent_Fit.f l0_0 l0_1 = some r) :
  Calls Try.prog 30 #[.agg #[.slice A0_0 l0_0.length c0_0, .slice A0_1 l0_1.length c0_1]] w fun e w' => e = .returned (.bool r) ∧ Below w.heap.size w w' := by
 have hu27 := Try.underlying27
 have HR0_0 := Aside0.mk hr0_0
 have HC0_0 := Aside0.mk hc0_0
 clear hr0_0 hc0_0
 have HR0_1 := Aside0.mk hr0_1
 have HC0_1 := Aside0.mk hc0_1
 clear hr0_1 hc0_1
 have HB := Aside0.mk (Below.refl w.heap.size w)
 have H : ((graph_Valid.f l0_0 l0_1).bind fun t310 => (some t310)) = some r := h
 clear h
 replace H := Option.bind_eq_some_iff.mp H
 obtain ⟨t310, A20, H⟩ := H
 replace H : (some t310) = some r := H
 have A2 := Aside0.mk A20
 clear A20
 obtain rfl := Option.some.inj H
 go_enter Try.func30, Try.ntmps30
 go_wp2_with (first | ((with_reducible refine gate_dst (N := 1) rfl ?_); refine box_event ?hg (N := 1) ?hd (cs := #[.slice A0_0 l0_0.length c0_0, .slice A0_1 l0_1.length c0_1]) (t := 27) ?hr ?_; (case hd => rfl); (case hg => rfl); (case hr => first | (go_simp; done) | (go_simp; rfl)); intro gb309 hg w3 hbox hb; have n0_ := Aside0.mk (below_step (by repeat (first | (with_reducible first | exact HB.out | apply below_alloc | apply pw_below_drewN | apply below_drew1) | exact HB.out)) hb); have n1_ := Aside0.mk (hbox); have n2_ := Aside0.mk ((by rw [hg]; exact (below_size (by repeat (first | (with_reducible first | exact HB.out | apply below_alloc | apply pw_below_drewN | apply below_drew1) | exact HB.out))) : w.heap.size ≤ gb309)); have n3_ := Aside0.mk ((by rw [hg]; exact (below_size (by repeat (first | (with_reducible first | exact HB.out | apply below_alloc | apply pw_below_drewN | apply below_drew1) | exact HB.out))) : w.heap.size ≤ gb309)); clear HB; have HB := n0_; have BK309 := n1_; have GW309 := n2_; have GE309 := n3_; clear n0_ n1_ n2_ n3_; clear hb hbox hg; have hcz4_0 : w3.cell? ⟨gb309, 0, none⟩ = some (.slice A0_0 l0_0.length c0_0) := (blk_cell BK309.out 0).trans rfl; have hcz4_1 : w3.cell? ⟨gb309, 1, none⟩ = some (.slice A0_1 l0_1.length c0_1) := (blk_cell BK309.out 1).trans rfl; have hfz4_0 := blk_frozen BK309.out 0; have hfz4_1 := blk_frozen BK309.out 1) | ((with_reducible refine gate_callee (f := 80) rfl ?_); refine goesL_ (some 4) rfl rfl Try.func80 (by kernel_rfl) rfl #[.agg #[.slice A0_0 l0_0.length c0_0, .slice A0_1 l0_1.length c0_1]] rfl (by (try simp only [List.map_toArray, List.map_cons, List.map_nil]); first | done | rfl | (simp only [List.length_drop, List.length_take]; rfl)) ?_; (with_reducible refine (graph_Valid.calls _ _ l0_0 _ _ l0_1 t310 _ ?side1 ?side2 ?side3 ?side4 A2.out).mono ?_); (case side1 => repeat (first | exact (Kd.C_below HR0_0.out HB.out) | (with_reducible refine Kd.C_alloc ?_ _) | (with_reducible refine Kd.C_drewN ?_ _) | (with_reducible refine Kd.C_drew ?_))); (case side2 => exact HC0_0.out); (case side3 => repeat (first | exact (Kd.C_below HR0_1.out HB.out) | (with_reducible refine Kd.C_alloc ?_ _) | (with_reducible refine Kd.C_drewN ?_ _) | (with_reducible refine Kd.C_drew ?_))); (case side4 => exact HC0_1.out); rintro e w5 ⟨rfl, hb⟩; refine ⟨_, rfl, ?_⟩; have n0_ := Aside0.mk (blk_below (g := gb309) (o := .cells #[.slice A0_0 l0_0.length c0_0, .slice A0_1 l0_1.length c0_1] 27 (0, 0)) (by (with_reducible repeat (first | refine blk_drewN ?_ _ | refine blk_drew ?_ | refine blk_alloc ?_ _)); exact BK309.out) hb); have n1_ := Aside0.mk (below_step (by repeat (first | (with_reducible first | exact HB.out | apply below_alloc | apply pw_below_drewN | apply below_drew1 | refine below_set ?_ GE309.out) | exact HB.out)) hb); clear BK309; clear HB; have BK309 := n0_; have HB := n1_; clear n0_ n1_; (try clear hb); (try clear hb2); (try clear hk); (try clear hi)))
 go_ret
 exact ⟨by first | rfl | (simp [errW_none, errW_some] <;> rfl) | (simp [*, errW_none, errW_some] <;> rfl), by repeat (first | (with_reducible first | exact HB.out | apply below_alloc | apply pw_below_drewN | apply below_drew1 | refine below_set ?_ GE309.out) | exact HB.out)⟩
end Go.Proofs.YthapikakneikbaaG
namespace Go.Proofs.YthapikakneikbaaG
open Go.RowKit Go.Proofs.YthapikakneikbaaW.PrintWords Go.Proofs.YthapikakneikbaaW.PrintLast Go.Proofs.YthapikakneikbaaW.PrintMore
attribute [local go_sem] max2_int min2_int max_two min_two max_three min_three max_four min_four   -- for this text's walks alone
set_option linter.unusedVariables false
set_option linter.unusedSimpArgs false
/-! ### shape_Holds: function 73 -/
def shape_Holds.f (l0_0 : List Int) (l0_1 : List (List (S60))) (l1 : List (List Int)) (l2 : List Int) : Option (Bool) := some (Go.Proofs.Ythapikakneikbaa.holdsB (toG l0_0 l0_1) l1 l2)
theorem shape_Holds.calls (A0_0 : Option Addr) (c0_0 : Nat) (l0_0 : List Int) (A0_1 : Option Addr) (c0_1 : Nat) (l0_1 : List (List (S60))) (A1 : Option Addr) (c1 : Nat) (l1 : List (List Int)) (A2 : Option Addr) (c2 : Nat) (l2 : List Int) (r : Bool) (w : World) (hr0_0 : Kd.C (Kd.int .i64) w A0_0 l0_0.length l0_0) (hc0_0 : l0_0.length ≤ c0_0) (hr0_1 : Kd.C (Kd.slice 60 k60) w A0_1 l0_1.length l0_1) (hc0_1 : l0_1.length ≤ c0_1) (hr1 : Kd.C (Kd.slice 3 (Kd.int .i64)) w A1 l1.length l1) (hc1 : l1.length ≤ c1) (hr2 : Kd.C (Kd.int .i64) w A2 l2.length l2) (hc2 : l2.length ≤ c2) (h : shape_Holds.f l0_0 l0_1 l1 l2 = some r) :
  Calls Try.prog 73 #[.agg #[.slice A0_0 l0_0.length c0_0, .slice A0_1 l0_1.length c0_1], .slice A1 l1.length c1, .slice A2 l2.length c2] w fun e w' => e = .returned (.bool r) ∧ Below w.heap.size w w' := by
 injection h with h
 subst h
 have hv := Go.Proofs.Ythapikakneikbaa.holds_calls w A0_0 c0_0 A0_1 c0_1 (toG l0_0 l0_1) (isGraph hr0_0 hc0_0 hr0_1 hc0_1) A1 c1 l1 (C_conf hr1) A2 c2 l2 (C_ints hr2)
 rw [show (toG l0_0 l0_1).ports.length = l0_1.length by simp [toG]] at hv
 exact hv
end Go.Proofs.YthapikakneikbaaG
namespace Go.Proofs.YthapikakneikbaaG
open Go.RowKit Go.Proofs.YthapikakneikbaaW.PrintWords Go.Proofs.YthapikakneikbaaW.PrintLast Go.Proofs.YthapikakneikbaaW.PrintMore
attribute [local go_sem] max2_int min2_int max_two min_two max_three min_three max_four min_four   -- for this text's walks alone
set_option linter.unusedVariables false
set_option linter.unusedSimpArgs false
/-! ### shape_Where: function 74 -/
def shape_Where.f (l0 : List (List Int)) (a1 : Int) : Option (Int) := if 0 ≤ a1 ∧ l0.length ≤ 32 ∧ (l0.all fun r => decide (a1.toNat < r.length)) = true then some ((Go.Proofs.Ythapikakneikbaa.whereB l0 a1.toNat : Nat) : Int) else none
theorem shape_Where.calls (A0 : Option Addr) (c0 : Nat) (l0 : List (List Int)) (a1 : Int) (r : Int) (w : World) (hr0 : Kd.C (Kd.slice 3 (Kd.int .i64)) w A0 l0.length l0) (hc0 : l0.length ≤ c0) (h : shape_Where.f l0 a1 = some r) :
  Calls Try.prog 74 #[.slice A0 l0.length c0, .int .i64 a1] w fun e w' => e = .returned (.int .u32 r) ∧ Drawn0 w w' := by
 unfold shape_Where.f at h
 by_cases hm : 0 ≤ a1 ∧ l0.length ≤ 32 ∧ (l0.all fun r => decide (a1.toNat < r.length)) = true
 ·
  rw [if_pos hm] at h
  injection h with h
  subst h
  obtain ⟨a1, rfl⟩ := Int.eq_ofNat_of_zero_le hm.1
  refine (Go.Proofs.Ythapikakneikbaa.where_calls w A0 c0 l0 a1 (C_conf hr0) hm.2.1 (fun r hr => by simpa using List.all_eq_true.1 hm.2.2 r hr)).mono ?_
  rintro e w' ⟨rfl, rfl⟩
  exact ⟨rfl, ⟨⟨0, rfl⟩⟩⟩
 ·
  rw [if_neg hm] at h
  cases h
end Go.Proofs.YthapikakneikbaaG
namespace Go.Proofs.YthapikakneikbaaG
open Go.RowKit Go.Proofs.YthapikakneikbaaW.PrintWords Go.Proofs.YthapikakneikbaaW.PrintLast Go.Proofs.YthapikakneikbaaW.PrintMore
attribute [local go_sem] max2_int min2_int max_two min_two max_three min_three max_four min_four   -- for this text's walks alone
set_option linter.unusedVariables false
set_option linter.unusedSimpArgs false
/-! ### independent_Members: function 12 -/
def independent_Members.f (l0_0 : List Int) (l0_1 : List (List (S60))) (l1 : List (List Int)) : Option (Int) := (independent_Fit.f l0_0 l0_1).bind fun t312 => (if t312 = true then ((shape_Holds.f l0_0 l0_1 l1 (([1] : List Int))).bind fun t316 => (if t316 = true then ((shape_Where.f l1 0).bind fun t317 => (some t317)) else (some 0))) else (some 0))
set_option maxHeartbeats 8000000 in
set_option maxRecDepth 100000 in
theorem independent_Members.calls (A0_0 : Option Addr) (c0_0 : Nat) (l0_0 : List Int) (A0_1 : Option Addr) (c0_1 : Nat) (l0_1 : List (List (S60))) (A1 : Option Addr) (c1 : Nat) (l1 : List (List Int)) (r : Int) (w : World) (hr0_0 : Kd.C (Kd.int .i64) w A0_0 l0_0.length l0_0) (hc0_0 : l0_0.length ≤ c0_0) (hr0_1 : Kd.C (Kd.slice 60 k60) w A0_1 l0_1.length l0_1) (hc0_1 : l0_1.length ≤ c0_1) (hr1 : Kd.C (Kd.slice 3 (Kd.int .i64)) w A1 l1.length l1) (hc1 : l1.length ≤ c1) (h : independent_Members.f l0_0 l0_1 l1 = some r) :
  Calls Try.prog 12 #[.agg #[.slice A0_0 l0_0.length c0_0, .slice A0_1 l0_1.length c0_1], .slice A1 l1.length c1] w fun e w' => e = .returned (.int .u32 r) ∧ Below w.heap.size w w' := by
 have hu27 := Try.underlying27
 have HR0_0 := Aside0.mk hr0_0
 have HC0_0 := Aside0.mk hc0_0
 clear hr0_0 hc0_0
 have HR0_1 := Aside0.mk hr0_1
 have HC0_1 := Aside0.mk hc0_1
 clear hr0_1 hc0_1
 have HR1 := Aside0.mk hr1
 have HC1 := Aside0.mk hc1
 clear hr1 hc1
 have HB := Aside0.mk (Below.refl w.heap.size w)
 have H : ((independent_Fit.f l0_0 l0_1).bind fun t312 => (if t312 = true then ((shape_Holds.f l0_0 l0_1 l1 (([1] : List Int))).bind fun t316 => (if t316 = true then ((shape_Where.f l1 0).bind fun t317 => (some t317)) else (some 0))) else (some 0))) = some r := h
 clear h
 replace H := Option.bind_eq_some_iff.mp H
 obtain ⟨t312, A30, H⟩ := H
 replace H : (if t312 = true then ((shape_Holds.f l0_0 l0_1 l1 (([1] : List Int))).bind fun t316 => (if t316 = true then ((shape_Where.f l1 0).bind fun t317 => (some t317)) else (some 0))) else (some 0)) = some r := H
 have A3 := Aside0.mk A30
 clear A30
 by_cases c4 : t312 = true
 ·
  subst c4
  have H1 : ((shape_Holds.f l0_0 l0_1 l1 (([1] : List Int))).bind fun t316 => (if t316 = true then ((shape_Where.f l1 0).bind fun t317 => (some t317)) else (some 0))) = some r := by rw [if_pos rfl] at H; exact H
  clear H
  have H := H1
  clear H1
  obtain ⟨y313, hy313⟩ : ∃ y_ : List Int, y_ = (([1] : List Int)) := ⟨_, rfl⟩
  replace H : ((shape_Holds.f l0_0 l0_1 l1 y313).bind fun t316 => (if t316 = true then ((shape_Where.f l1 0).bind fun t317 => (some t317)) else (some 0))) = some r := by first | (rw [hy313]; with_reducible exact H) | (have H2_ := (Option.bind_some _ _).symm.trans H; rw [hy313]; with_reducible exact H2_) | (have H2_ := (Option.bind_some _ _).symm.trans H; with_reducible exact H2_) | with_reducible exact H | (rw [hy313]; exact H) | exact H
  have Ny313 := Aside0.mk hy313
  clear hy313
  replace H := Option.bind_eq_some_iff.mp H
  obtain ⟨t316, A50, H⟩ := H
  replace H : (if t316 = true then ((shape_Where.f l1 0).bind fun t317 => (some t317)) else (some 0)) = some r := H
  have A5 := Aside0.mk A50
  clear A50
  by_cases c6 : t316 = true
  ·
   subst c6
   have H1 : ((shape_Where.f l1 0).bind fun t317 => (some t317)) = some r := by rw [if_pos rfl] at H; exact H
   clear H
   have H := H1
   clear H1
   replace H := Option.bind_eq_some_iff.mp H
   obtain ⟨t317, A70, H⟩ := H
   replace H : (some t317) = some r := H
   have A7 := Aside0.mk A70
   clear A70
   obtain rfl := Option.some.inj H
   go_enter Try.func12, Try.ntmps12
   go_wp2_with (first | ((with_reducible refine gate_dst (N := 2) rfl ?_); (try (refine gate_guard (by rfl) ?_; dsimp only)); refine box_event ?hg (N := 2) ?hd (cs := #[.slice A0_0 l0_0.length c0_0, .slice A0_1 l0_1.length c0_1]) (t := 27) ?hr ?_; (case hd => rfl); (case hg => rfl); (case hr => first | (go_simp; done) | (go_simp; rfl)); intro gb311 hg w8 hbox hb; have n0_ := Aside0.mk (below_step (by repeat (first | (with_reducible first | exact HB.out | apply below_alloc | apply pw_below_drewN | apply below_drew1) | exact HB.out)) hb); have n1_ := Aside0.mk (hbox); have n2_ := Aside0.mk ((by rw [hg]; exact (below_size (by repeat (first | (with_reducible first | exact HB.out | apply below_alloc | apply pw_below_drewN | apply below_drew1) | exact HB.out))) : w.heap.size ≤ gb311)); have n3_ := Aside0.mk ((by rw [hg]; exact (below_size (by repeat (first | (with_reducible first | exact HB.out | apply below_alloc | apply pw_below_drewN | apply below_drew1) | exact HB.out))) : w.heap.size ≤ gb311)); clear HB; have HB := n0_; have BK311 := n1_; have GW311 := n2_; have GE311 := n3_; clear n0_ n1_ n2_ n3_; clear hb hbox hg; have hcz9_0 : w8.cell? ⟨gb311, 0, none⟩ = some (.slice A0_0 l0_0.length c0_0) := (blk_cell BK311.out 0).trans rfl; have hcz9_1 : w8.cell? ⟨gb311, 1, none⟩ = some (.slice A0_1 l0_1.length c0_1) := (blk_cell BK311.out 1).trans rfl; have hfz9_0 := blk_frozen BK311.out 0; have hfz9_1 := blk_frozen BK311.out 1) | ((with_reducible refine gate_callee (f := 30) rfl ?_); refine goesL_ (some 6) rfl rfl Try.func30 (by kernel_rfl) rfl #[.agg #[.slice A0_0 l0_0.length c0_0, .slice A0_1 l0_1.length c0_1]] rfl (by (try simp only [List.map_toArray, List.map_cons, List.map_nil]); first | done | rfl | (simp only [List.length_drop, List.length_take]; rfl)) ?_; (with_reducible refine (independent_Fit.calls _ _ l0_0 _ _ l0_1 true _ ?side1 ?side2 ?side3 ?side4 A3.out).mono ?_); (case side1 => repeat (first | exact (Kd.C_below HR0_0.out HB.out) | (with_reducible refine Kd.C_alloc ?_ _) | (with_reducible refine Kd.C_drewN ?_ _) | (with_reducible refine Kd.C_drew ?_))); (case side2 => exact HC0_0.out); (case side3 => repeat (first | exact (Kd.C_below HR0_1.out HB.out) | (with_reducible refine Kd.C_alloc ?_ _) | (with_reducible refine Kd.C_drewN ?_ _) | (with_reducible refine Kd.C_drew ?_))); (case side4 => exact HC0_1.out); rintro e w10 ⟨rfl, hb⟩; refine ⟨_, rfl, ?_⟩; have n0_ := Aside0.mk (blk_below (g := gb311) (o := .cells #[.slice A0_0 l0_0.length c0_0, .slice A0_1 l0_1.length c0_1] 27 (0, 0)) (by (with_reducible repeat (first | refine blk_drewN ?_ _ | refine blk_drew ?_ | refine blk_alloc ?_ _)); exact BK311.out) hb); have n1_ := Aside0.mk (below_step (by repeat (first | (with_reducible first | exact HB.out | apply below_alloc | apply pw_below_drewN | apply below_drew1 | refine below_set ?_ GE311.out) | exact HB.out)) hb); clear BK311; clear HB; have BK311 := n0_; have HB := n1_; clear n0_ n1_; (try clear hb); (try clear hb2); (try clear hk); (try clear hi); have hcz11_0 : w10.cell? ⟨gb311, 0, none⟩ = some (.slice A0_0 l0_0.length c0_0) := (blk_cell BK311.out 0).trans rfl; have hcz11_1 : w10.cell? ⟨gb311, 1, none⟩ = some (.slice A0_1 l0_1.length c0_1) := (blk_cell BK311.out 1).trans rfl; have hfz11_0 := blk_frozen BK311.out 0; have hfz11_1 := blk_frozen BK311.out 1) | ((with_reducible refine gate_dst (N := 11) rfl ?_); (try (refine gate_guard (by rfl) ?_; dsimp only)); refine Kd.R_lit (Kd.int .i64) _ 3 ?hg (N := 11) ?hd (xs := ([1] : List Int)) (inner := [.int .i64 1]) (ok := fun _ => True) (okp := fun _ => True) ?hr ?hp (fun _ hk => hk) trivial (Below.refl _ _) (Nat.le_refl _) (by simp) ?_; (case hd => rfl); (case hg => rfl); (case hr => first | (go_simp; done) | (go_simp; rfl)); (case hp => exact (Reps.one (show Kd.M (Kd.int .i64) _ _ _ 1 [.int .i64 1] from rfl) (Reps.none _ _))); intro v314 w12 ho13 hb hg_ hnew_; clear hg_ hnew_; (first | rw [← Ny313.out] at ho13 | (simp only [Int.reduceToNat] at ho13; rw [← Ny313.out] at ho13)); have n0_ := Aside0.mk (Kd.R_lower ho13 (below_size (by repeat (first | (with_reducible first | exact HB.out | apply below_alloc | apply pw_below_drewN | apply below_drew1 | refine below_set ?_ GE311.out) | exact HB.out)))); have n1_ := Aside0.mk (blk_below (g := gb311) (o := .cells #[.slice A0_0 l0_0.length c0_0, .slice A0_1 l0_1.length c0_1] 27 (0, 0)) (by (with_reducible repeat (first | refine blk_drewN ?_ _ | refine blk_drew ?_ | refine blk_alloc ?_ _)); exact BK311.out) hb); have n2_ := Aside0.mk (below_step (by repeat (first | (with_reducible first | exact HB.out | apply below_alloc | apply pw_below_drewN | apply below_drew1 | refine below_set ?_ GE311.out) | exact HB.out)) hb); clear BK311; clear HB; have HO315 := n0_; have BK311 := n1_; have HB := n2_; clear n0_ n1_ n2_; clear hb ho13; obtain ⟨Ao14, co14, eo14⟩ := Kd.R_slice HO315.out; subst eo14) | (go_at_call 73; (with_reducible refine (shape_Holds.calls _ _ l0_0 _ _ l0_1 _ _ l1 _ _ y313 true _ ?side1 ?side2 ?side3 ?side4 ?side5 ?side6 ?side7 ?side8 A5.out).mono ?_); (case side1 => repeat (first | exact (Kd.C_below HR0_0.out HB.out) | (with_reducible refine Kd.C_alloc ?_ _) | (with_reducible refine Kd.C_drewN ?_ _) | (with_reducible refine Kd.C_drew ?_))); (case side2 => exact HC0_0.out); (case side3 => repeat (first | exact (Kd.C_below HR0_1.out HB.out) | (with_reducible refine Kd.C_alloc ?_ _) | (with_reducible refine Kd.C_drewN ?_ _) | (with_reducible refine Kd.C_drew ?_))); (case side4 => exact HC0_1.out); (case side5 => repeat (first | exact (Kd.C_below HR1.out HB.out) | (with_reducible refine Kd.C_alloc ?_ _) | (with_reducible refine Kd.C_drewN ?_ _) | (with_reducible refine Kd.C_drew ?_))); (case side6 => exact HC1.out); (case side7 => repeat (first | exact (Kd.R_reads' HO315.out).2.2 | (with_reducible refine Kd.C_alloc ?_ _) | (with_reducible refine Kd.C_drewN ?_ _) | (with_reducible refine Kd.C_drew ?_))); (case side8 => exact (Kd.R_reads' HO315.out).2.1); rintro e w15 ⟨rfl, hb⟩; have n0_ := Aside0.mk (Kd.R_below (by (with_reducible repeat (first | apply Kd.R_alloc | apply Kd.R_drewN | apply Kd.R_drew)); exact HO315.out) hb); have n1_ := Aside0.mk (blk_below (g := gb311) (o := .cells #[.slice A0_0 l0_0.length c0_0, .slice A0_1 l0_1.length c0_1] 27 (0, 0)) (by (with_reducible repeat (first | refine blk_drewN ?_ _ | refine blk_drew ?_ | refine blk_alloc ?_ _)); exact BK311.out) hb); have n2_ := Aside0.mk (below_step (by repeat (first | (with_reducible first | exact HB.out | apply below_alloc | apply pw_below_drewN | apply below_drew1 | refine below_set ?_ GE311.out) | exact HB.out)) hb); clear HO315; clear BK311; clear HB; have HO315 := n0_; have BK311 := n1_; have HB := n2_; clear n0_ n1_ n2_; (try clear hb); (try clear hb2); (try clear hk); (try clear hi)) | ((with_reducible refine gate_callee (f := 74) rfl ?_); refine goesL_ (some 16) rfl rfl Try.func74 (by kernel_rfl) rfl #[.slice A1 l1.length c1, .int .i64 0] rfl (by (try simp only [List.map_toArray, List.map_cons, List.map_nil]); first | done | rfl | (simp only [List.length_drop, List.length_take]; rfl)) ?_; (with_reducible refine (shape_Where.calls _ _ l1 0 t317 _ ?side1 ?side2 A7.out).mono ?_); (case side1 => repeat (first | exact (Kd.C_below HR1.out HB.out) | (with_reducible refine Kd.C_alloc ?_ _) | (with_reducible refine Kd.C_drewN ?_ _) | (with_reducible refine Kd.C_drew ?_))); (case side2 => exact HC1.out); rintro e w' ⟨rfl, ⟨nd, rfl⟩⟩; refine ⟨_, rfl, ?_⟩))
   go_ret
   exact ⟨by first | rfl | (simp [errW_none, errW_some] <;> rfl) | (simp [*, errW_none, errW_some] <;> rfl), by repeat (first | (with_reducible first | exact HB.out | apply below_alloc | apply pw_below_drewN | apply below_drew1 | refine below_set ?_ GE311.out) | exact HB.out)⟩
  ·
   replace c6 := Bool.eq_false_iff.mpr c6
   subst c6
   have H1 : (some 0) = some r := by rw [if_neg (show ¬ (false = true) by decide)] at H; exact H
   clear H
   have H := H1
   clear H1
   obtain rfl := Option.some.inj H
   go_enter Try.func12, Try.ntmps12
   go_wp2_with (first | ((with_reducible refine gate_dst (N := 2) rfl ?_); (try (refine gate_guard (by rfl) ?_; dsimp only)); refine box_event ?hg (N := 2) ?hd (cs := #[.slice A0_0 l0_0.length c0_0, .slice A0_1 l0_1.length c0_1]) (t := 27) ?hr ?_; (case hd => rfl); (case hg => rfl); (case hr => first | (go_simp; done) | (go_simp; rfl)); intro gb311 hg w16 hbox hb; have n0_ := Aside0.mk (below_step (by repeat (first | (with_reducible first | exact HB.out | apply below_alloc | apply pw_below_drewN | apply below_drew1) | exact HB.out)) hb); have n1_ := Aside0.mk (hbox); have n2_ := Aside0.mk ((by rw [hg]; exact (below_size (by repeat (first | (with_reducible first | exact HB.out | apply below_alloc | apply pw_below_drewN | apply below_drew1) | exact HB.out))) : w.heap.size ≤ gb311)); have n3_ := Aside0.mk ((by rw [hg]; exact (below_size (by repeat (first | (with_reducible first | exact HB.out | apply below_alloc | apply pw_below_drewN | apply below_drew1) | exact HB.out))) : w.heap.size ≤ gb311)); clear HB; have HB := n0_; have BK311 := n1_; have GW311 := n2_; have GE311 := n3_; clear n0_ n1_ n2_ n3_; clear hb hbox hg; have hcz17_0 : w16.cell? ⟨gb311, 0, none⟩ = some (.slice A0_0 l0_0.length c0_0) := (blk_cell BK311.out 0).trans rfl; have hcz17_1 : w16.cell? ⟨gb311, 1, none⟩ = some (.slice A0_1 l0_1.length c0_1) := (blk_cell BK311.out 1).trans rfl; have hfz17_0 := blk_frozen BK311.out 0; have hfz17_1 := blk_frozen BK311.out 1) | ((with_reducible refine gate_callee (f := 30) rfl ?_); refine goesL_ (some 6) rfl rfl Try.func30 (by kernel_rfl) rfl #[.agg #[.slice A0_0 l0_0.length c0_0, .slice A0_1 l0_1.length c0_1]] rfl (by (try simp only [List.map_toArray, List.map_cons, List.map_nil]); first | done | rfl | (simp only [List.length_drop, List.length_take]; rfl)) ?_; (with_reducible refine (independent_Fit.calls _ _ l0_0 _ _ l0_1 true _ ?side1 ?side2 ?side3 ?side4 A3.out).mono ?_); (case side1 => repeat (first | exact (Kd.C_below HR0_0.out HB.out) | (with_reducible refine Kd.C_alloc ?_ _) | (with_reducible refine Kd.C_drewN ?_ _) | (with_reducible refine Kd.C_drew ?_))); (case side2 => exact HC0_0.out); (case side3 => repeat (first | exact (Kd.C_below HR0_1.out HB.out) | (with_reducible refine Kd.C_alloc ?_ _) | (with_reducible refine Kd.C_drewN ?_ _) | (with_reducible refine Kd.C_drew ?_))); (case side4 => exact HC0_1.out); rintro e w18 ⟨rfl, hb⟩; refine ⟨_, rfl, ?_⟩; have n0_ := Aside0.mk (blk_below (g := gb311) (o := .cells #[.slice A0_0 l0_0.length c0_0, .slice A0_1 l0_1.length c0_1] 27 (0, 0)) (by (with_reducible repeat (first | refine blk_drewN ?_ _ | refine blk_drew ?_ | refine blk_alloc ?_ _)); exact BK311.out) hb); have n1_ := Aside0.mk (below_step (by repeat (first | (with_reducible first | exact HB.out | apply below_alloc | apply pw_below_drewN | apply below_drew1 | refine below_set ?_ GE311.out) | exact HB.out)) hb); clear BK311; clear HB; have BK311 := n0_; have HB := n1_; clear n0_ n1_; (try clear hb); (try clear hb2); (try clear hk); (try clear hi); have hcz19_0 : w18.cell? ⟨gb311, 0, none⟩ = some (.slice A0_0 l0_0.length c0_0) := (blk_cell BK311.out 0).trans rfl; have hcz19_1 : w18.cell? ⟨gb311, 1, none⟩ = some (.slice A0_1 l0_1.length c0_1) := (blk_cell BK311.out 1).trans rfl; have hfz19_0 := blk_frozen BK311.out 0; have hfz19_1 := blk_frozen BK311.out 1) | ((with_reducible refine gate_dst (N := 11) rfl ?_); (try (refine gate_guard (by rfl) ?_; dsimp only)); refine Kd.R_lit (Kd.int .i64) _ 3 ?hg (N := 11) ?hd (xs := ([1] : List Int)) (inner := [.int .i64 1]) (ok := fun _ => True) (okp := fun _ => True) ?hr ?hp (fun _ hk => hk) trivial (Below.refl _ _) (Nat.le_refl _) (by simp) ?_; (case hd => rfl); (case hg => rfl); (case hr => first | (go_simp; done) | (go_simp; rfl)); (case hp => exact (Reps.one (show Kd.M (Kd.int .i64) _ _ _ 1 [.int .i64 1] from rfl) (Reps.none _ _))); intro v314 w20 ho21 hb hg_ hnew_; clear hg_ hnew_; (first | rw [← Ny313.out] at ho21 | (simp only [Int.reduceToNat] at ho21; rw [← Ny313.out] at ho21)); have n0_ := Aside0.mk (Kd.R_lower ho21 (below_size (by repeat (first | (with_reducible first | exact HB.out | apply below_alloc | apply pw_below_drewN | apply below_drew1 | refine below_set ?_ GE311.out) | exact HB.out)))); have n1_ := Aside0.mk (blk_below (g := gb311) (o := .cells #[.slice A0_0 l0_0.length c0_0, .slice A0_1 l0_1.length c0_1] 27 (0, 0)) (by (with_reducible repeat (first | refine blk_drewN ?_ _ | refine blk_drew ?_ | refine blk_alloc ?_ _)); exact BK311.out) hb); have n2_ := Aside0.mk (below_step (by repeat (first | (with_reducible first | exact HB.out | apply below_alloc | apply pw_below_drewN | apply below_drew1 | refine below_set ?_ GE311.out) | exact HB.out)) hb); clear BK311; clear HB; have HO315 := n0_; have BK311 := n1_; have HB := n2_; clear n0_ n1_ n2_; clear hb ho21; obtain ⟨Ao22, co22, eo22⟩ := Kd.R_slice HO315.out; subst eo22) | (go_at_call 73; (with_reducible refine (shape_Holds.calls _ _ l0_0 _ _ l0_1 _ _ l1 _ _ y313 false _ ?side1 ?side2 ?side3 ?side4 ?side5 ?side6 ?side7 ?side8 A5.out).mono ?_); (case side1 => repeat (first | exact (Kd.C_below HR0_0.out HB.out) | (with_reducible refine Kd.C_alloc ?_ _) | (with_reducible refine Kd.C_drewN ?_ _) | (with_reducible refine Kd.C_drew ?_))); (case side2 => exact HC0_0.out); (case side3 => repeat (first | exact (Kd.C_below HR0_1.out HB.out) | (with_reducible refine Kd.C_alloc ?_ _) | (with_reducible refine Kd.C_drewN ?_ _) | (with_reducible refine Kd.C_drew ?_))); (case side4 => exact HC0_1.out); (case side5 => repeat (first | exact (Kd.C_below HR1.out HB.out) | (with_reducible refine Kd.C_alloc ?_ _) | (with_reducible refine Kd.C_drewN ?_ _) | (with_reducible refine Kd.C_drew ?_))); (case side6 => exact HC1.out); (case side7 => repeat (first | exact (Kd.R_reads' HO315.out).2.2 | (with_reducible refine Kd.C_alloc ?_ _) | (with_reducible refine Kd.C_drewN ?_ _) | (with_reducible refine Kd.C_drew ?_))); (case side8 => exact (Kd.R_reads' HO315.out).2.1); rintro e w23 ⟨rfl, hb⟩; have n0_ := Aside0.mk (Kd.R_below (by (with_reducible repeat (first | apply Kd.R_alloc | apply Kd.R_drewN | apply Kd.R_drew)); exact HO315.out) hb); have n1_ := Aside0.mk (blk_below (g := gb311) (o := .cells #[.slice A0_0 l0_0.length c0_0, .slice A0_1 l0_1.length c0_1] 27 (0, 0)) (by (with_reducible repeat (first | refine blk_drewN ?_ _ | refine blk_drew ?_ | refine blk_alloc ?_ _)); exact BK311.out) hb); have n2_ := Aside0.mk (below_step (by repeat (first | (with_reducible first | exact HB.out | apply below_alloc | apply pw_below_drewN | apply below_drew1 | refine below_set ?_ GE311.out) | exact HB.out)) hb); clear HO315; clear BK311; clear HB; have HO315 := n0_; have BK311 := n1_; have HB := n2_; clear n0_ n1_ n2_; (try clear hb); (try clear hb2); (try clear hk); (try clear hi)))
   go_ret
   exact ⟨by first | rfl | (simp [errW_none, errW_some] <;> rfl) | (simp [*, errW_none, errW_some] <;> rfl), by repeat (first | (with_reducible first | exact HB.out | apply below_alloc | apply pw_below_drewN | apply below_drew1 | refine below_set ?_ GE311.out) | exact HB.out)⟩
 ·
  replace c4 := Bool.eq_false_iff.mpr c4
  subst c4
  have H1 : (some 0) = some r := by rw [if_neg (show ¬ (false = true) by decide)] at H; exact H
  clear H
  have H := H1
  clear H1
  obtain rfl := Option.some.inj H
  go_enter Try.func12, Try.ntmps12
  go_wp2_with (first | ((with_reducible refine gate_dst (N := 2) rfl ?_); (try (refine gate_guard (by rfl) ?_; dsimp only)); refine box_event ?hg (N := 2) ?hd (cs := #[.slice A0_0 l0_0.length c0_0, .slice A0_1 l0_1.length c0_1]) (t := 27) ?hr ?_; (case hd => rfl); (case hg => rfl); (case hr => first | (go_simp; done) | (go_simp; rfl)); intro gb311 hg w24 hbox hb; have n0_ := Aside0.mk (below_step (by repeat (first | (with_reducible first | exact HB.out | apply below_alloc | apply pw_below_drewN | apply below_drew1) | exact HB.out)) hb); have n1_ := Aside0.mk (hbox); have n2_ := Aside0.mk ((by rw [hg]; exact (below_size (by repeat (first | (with_reducible first | exact HB.out | apply below_alloc | apply pw_below_drewN | apply below_drew1) | exact HB.out))) : w.heap.size ≤ gb311)); have n3_ := Aside0.mk ((by rw [hg]; exact (below_size (by repeat (first | (with_reducible first | exact HB.out | apply below_alloc | apply pw_below_drewN | apply below_drew1) | exact HB.out))) : w.heap.size ≤ gb311)); clear HB; have HB := n0_; have BK311 := n1_; have GW311 := n2_; have GE311 := n3_; clear n0_ n1_ n2_ n3_; clear hb hbox hg; have hcz25_0 : w24.cell? ⟨gb311, 0, none⟩ = some (.slice A0_0 l0_0.length c0_0) := (blk_cell BK311.out 0).trans rfl; have hcz25_1 : w24.cell? ⟨gb311, 1, none⟩ = some (.slice A0_1 l0_1.length c0_1) := (blk_cell BK311.out 1).trans rfl; have hfz25_0 := blk_frozen BK311.out 0; have hfz25_1 := blk_frozen BK311.out 1) | ((with_reducible refine gate_callee (f := 30) rfl ?_); refine goesL_ (some 6) rfl rfl Try.func30 (by kernel_rfl) rfl #[.agg #[.slice A0_0 l0_0.length c0_0, .slice A0_1 l0_1.length c0_1]] rfl (by (try simp only [List.map_toArray, List.map_cons, List.map_nil]); first | done | rfl | (simp only [List.length_drop, List.length_take]; rfl)) ?_; (with_reducible refine (independent_Fit.calls _ _ l0_0 _ _ l0_1 false _ ?side1 ?side2 ?side3 ?side4 A3.out).mono ?_); (case side1 => repeat (first | exact (Kd.C_below HR0_0.out HB.out) | (with_reducible refine Kd.C_alloc ?_ _) | (with_reducible refine Kd.C_drewN ?_ _) | (with_reducible refine Kd.C_drew ?_))); (case side2 => exact HC0_0.out); (case side3 => repeat (first | exact (Kd.C_below HR0_1.out HB.out) | (with_reducible refine Kd.C_alloc ?_ _) | (with_reducible refine Kd.C_drewN ?_ _) | (with_reducible refine Kd.C_drew ?_))); (case side4 => exact HC0_1.out); rintro e w26 ⟨rfl, hb⟩; refine ⟨_, rfl, ?_⟩; have n0_ := Aside0.mk (blk_below (g := gb311) (o := .cells #[.slice A0_0 l0_0.length c0_0, .slice A0_1 l0_1.length c0_1] 27 (0, 0)) (by (with_reducible repeat (first | refine blk_drewN ?_ _ | refine blk_drew ?_ | refine blk_alloc ?_ _)); exact BK311.out) hb); have n1_ := Aside0.mk (below_step (by repeat (first | (with_reducible first | exact HB.out | apply below_alloc | apply pw_below_drewN | apply below_drew1 | refine below_set ?_ GE311.out) | exact HB.out)) hb); clear BK311; clear HB; have BK311 := n0_; have HB := n1_; clear n0_ n1_; (try clear hb); (try clear hb2); (try clear hk); (try clear hi)))
  go_ret
  exact ⟨by first | rfl | (simp [errW_none, errW_some] <;> rfl) | (simp [*, errW_none, errW_some] <;> rfl), by repeat (first | (with_reducible first | exact HB.out | apply below_alloc | apply pw_below_drewN | apply below_drew1 | refine below_set ?_ GE311.out) | exact HB.out)⟩
end Go.Proofs.YthapikakneikbaaG
/-
  As Bridge, beside the contracts of the text Neigh.
-/
namespace Go.Proofs.YthapikakneikbaaG
open Go.RowKit Go.Proofs.YthapikakneikbaaW.PrintWords Go.Proofs.YthapikakneikbaaW.PrintLast Go.Proofs.YthapikakneikbaaW.PrintMore
attribute [local go_sem] max2_int min2_int max_two min_two max_three min_three max_four min_four   -- for this text's walks alone
set_option linter.unusedVariables false
set_option linter.unusedSimpArgs false
/-! ### graph_Neighbours: function 78 -/
def graph_Neighbours.f (l0_0 : List Int) (l0_1 : List (List (S60))) (a1 : Int) : Option (Int) := if 0 ≤ a1 ∧ a1 < 4294967296 then some ((Go.Proofs.Ythapikakneikbaa.neighB (toG l0_0 l0_1) a1.toNat : Nat) : Int) else none
theorem graph_Neighbours.calls (A0_0 : Option Addr) (c0_0 : Nat) (l0_0 : List Int) (A0_1 : Option Addr) (c0_1 : Nat) (l0_1 : List (List (S60))) (a1 : Int) (r : Int) (w : World) (hr0_0 : Kd.C (Kd.int .i64) w A0_0 l0_0.length l0_0) (hc0_0 : l0_0.length ≤ c0_0) (hr0_1 : Kd.C (Kd.slice 60 k60) w A0_1 l0_1.length l0_1) (hc0_1 : l0_1.length ≤ c0_1) (h : graph_Neighbours.f l0_0 l0_1 a1 = some r) :
  Calls Try.prog 78 #[.agg #[.slice A0_0 l0_0.length c0_0, .slice A0_1 l0_1.length c0_1], .int .u32 a1] w fun e w' => e = .returned (.int .u32 r) ∧ Below w.heap.size w w' := by
 unfold graph_Neighbours.f at h
 by_cases hm : 0 ≤ a1 ∧ a1 < 4294967296
 ·
  rw [if_pos hm] at h
  injection h with h
  subst h
  obtain ⟨a1, rfl⟩ := Int.eq_ofNat_of_zero_le hm.1
  have hv := Go.Proofs.Ythapikakneikbaa.neigh_calls w A0_0 c0_0 A0_1 c0_1 (toG l0_0 l0_1) (isGraph hr0_0 hc0_0 hr0_1 hc0_1) a1 (by omega)
  rw [show (toG l0_0 l0_1).ports.length = l0_1.length by simp [toG]] at hv
  exact hv
 ·
  rw [if_neg hm] at h
  cases h
end Go.Proofs.YthapikakneikbaaG
namespace Go.Proofs.YthapikakneikbaaG
open Go.RowKit Go.Proofs.YthapikakneikbaaW.PrintWords Go.Proofs.YthapikakneikbaaW.PrintLast Go.Proofs.YthapikakneikbaaW.PrintMore
attribute [local go_sem] max2_int min2_int max_two min_two max_three min_three max_four min_four   -- for this text's walks alone
set_option linter.unusedVariables false
set_option linter.unusedSimpArgs false
/-! ### independent_Legit: function 18 -/
def independent_Legit.j0 : Nat → List (List Int) → Bool → List Int → List (List (S60)) → Option (Bool)
 | 0, _, _, _, _ => none
 | k + 1, x1, x16, x319000, x319001 => if x16 = true then (some false) else ((shape_Where.f x1 0).bind fun t324 => ((graph_Neighbours.f x319000 x319001 t324).bind fun t325 => (some (t325 == (Go.bits .andNot .u32 (((shl .u32 1 (x1.length : Int)) - 1) % 4294967296) t324)))))
def independent_Legit.f (k : Nat) (l0_0 : List Int) (l0_1 : List (List (S60))) (l1 : List (List Int)) : Option (Bool) := (independent_Fit.f l0_0 l0_1).bind fun t319 => (if t319 = true then ((shape_Holds.f l0_0 l0_1 l1 (([1] : List Int))).bind fun t323 => (independent_Legit.j0 k l1 (!t323) l0_0 l0_1)) else (independent_Legit.j0 k l1 true l0_0 l0_1))
theorem independent_Legit.mono_l : ∀ k, (∀ y0 y1 y2 y3, LeO (independent_Legit.j0 k y0 y1 y2 y3) (independent_Legit.j0 (k + 1) y0 y1 y2 y3))
 | 0 => fun _ _ _ _ r h => by simp [independent_Legit.j0] at h
 | k + 1 => by
  have ih0 := independent_Legit.mono_l k
  ·
   intro y0 y1 y2 y3
   unfold independent_Legit.j0
   repeat' first
   | (with_reducible exact ih0 _ _ _ _)
   | (with_reducible exact LeO.refl _)
   | (with_reducible exact LeO.none _)
   | (with_reducible refine LeO.ite ?_ ?_)
   | (with_reducible refine LeO.bind ?_ (fun _ => ?_))
   | exact ih0 _ _ _ _
   | exact LeO.none _
   | refine LeO.ite ?_ ?_
   | refine LeO.bind ?_ (fun _ => ?_)
theorem independent_Legit.mono : ∀ a0 a1 a2 k, LeO (independent_Legit.f k a0 a1 a2) (independent_Legit.f (k + 1) a0 a1 a2) := by
 intro a0 a1 a2 k
 have ih0 := independent_Legit.mono_l k
 unfold independent_Legit.f
 repeat' first
   | (with_reducible exact ih0 _ _ _ _)
   | (with_reducible exact LeO.refl _)
   | (with_reducible exact LeO.none _)
   | (with_reducible refine LeO.ite ?_ ?_)
   | (with_reducible refine LeO.bind ?_ (fun _ => ?_))
   | exact ih0 _ _ _ _
   | exact LeO.none _
   | refine LeO.ite ?_ ?_
   | refine LeO.bind ?_ (fun _ => ?_)
set_option maxHeartbeats 8000000 in
set_option maxRecDepth 100000 in
theorem independent_Legit.calls (k : Nat) (A0_0 : Option Addr) (c0_0 : Nat) (l0_0 : List Int) (A0_1 : Option Addr) (c0_1 : Nat) (l0_1 : List (List (S60))) (A1 : Option Addr) (c1 : Nat) (l1 : List (List Int)) (r : Bool) (w : World) (hr0_0 : Kd.C (Kd.int .i64) w A0_0 l0_0.length l0_0) (hc0_0 : l0_0.length ≤ c0_0) (hr0_1 : Kd.C (Kd.slice 60 k60) w A0_1 l0_1.length l0_1) (hc0_1 : l0_1.length ≤ c0_1) (hr1 : Kd.C (Kd.slice 3 (Kd.int .i64)) w A1 l1.length l1) (hc1 : l1.length ≤ c1) (h : independent_Legit.f k l0_0 l0_1 l1 = some r) :
  Calls Try.prog 18 #[.agg #[.slice A0_0 l0_0.length c0_0, .slice A0_1 l0_1.length c0_1], .slice A1 l1.length c1] w fun e w' => e = .returned (.bool r) ∧ Below w.heap.size w w' := by
 have hu27 := Try.underlying27
 have HR0_0 := Aside0.mk hr0_0
 have HC0_0 := Aside0.mk hc0_0
 clear hr0_0 hc0_0
 have HR0_1 := Aside0.mk hr0_1
 have HC0_1 := Aside0.mk hc0_1
 clear hr0_1 hc0_1
 have HR1 := Aside0.mk hr1
 have HC1 := Aside0.mk hc1
 clear hr1 hc1
 have HB := Aside0.mk (Below.refl w.heap.size w)
 have H : ((independent_Fit.f l0_0 l0_1).bind fun t319 => (if t319 = true then ((shape_Holds.f l0_0 l0_1 l1 (([1] : List Int))).bind fun t323 => (independent_Legit.j0 k l1 (!t323) l0_0 l0_1)) else (independent_Legit.j0 k l1 true l0_0 l0_1))) = some r := h
 clear h
 have HC3 := Aside0.mk H
 clear H
 go_enter Try.func18, Try.ntmps18
 go_upto_region 1 with (first | ((with_reducible refine gate_dst (N := 2) rfl ?_); (try (refine gate_guard (by rfl) ?_; dsimp only)); refine box_event ?hg (N := 2) ?hd (cs := #[.slice A0_0 l0_0.length c0_0, .slice A0_1 l0_1.length c0_1]) (t := 27) ?hr ?_; (case hd => rfl); (case hg => rfl); (case hr => first | (go_simp; done) | (go_simp; rfl)); intro gb318 hg w4 hbox hb; have n0_ := Aside0.mk (below_step (by repeat (first | (with_reducible first | exact HB.out | apply below_alloc | apply pw_below_drewN | apply below_drew1) | exact HB.out)) hb); have n1_ := Aside0.mk (hbox); have n2_ := Aside0.mk ((by rw [hg]; exact (below_size (by repeat (first | (with_reducible first | exact HB.out | apply below_alloc | apply pw_below_drewN | apply below_drew1) | exact HB.out))) : w.heap.size ≤ gb318)); have n3_ := Aside0.mk ((by rw [hg]; exact (below_size (by repeat (first | (with_reducible first | exact HB.out | apply below_alloc | apply pw_below_drewN | apply below_drew1) | exact HB.out))) : w.heap.size ≤ gb318)); clear HB; have HB := n0_; have BK318 := n1_; have GW318 := n2_; have GE318 := n3_; clear n0_ n1_ n2_ n3_; clear hb hbox hg))
 (try simp only [Act.put, List.setIfInBounds_toArray, List.set_cons_zero, List.set_cons_succ])
 go_cut [16] (fun v16 wc => ∃ (kq : Nat) (x16_2 : Bool), v16 = .bool x16_2 ∧ Aside0 (independent_Legit.j0 kq l1 x16_2 l0_0 l0_1 = some r) ∧ Aside0 (kq ≤ k) ∧ Aside0 (wc.heap[gb318]? = some (.cells #[(.slice A0_0 l0_0.length c0_0), (.slice A0_1 l0_1.length c0_1)] 27 (0, 0))) ∧ Aside0 (Below w.heap.size w wc))
 case first =>
  have H := HC3.out
  clear HC3
  replace H := Option.bind_eq_some_iff.mp H
  obtain ⟨t319, A50, H⟩ := H
  replace H : (if t319 = true then ((shape_Holds.f l0_0 l0_1 l1 (([1] : List Int))).bind fun t323 => (independent_Legit.j0 k l1 (!t323) l0_0 l0_1)) else (independent_Legit.j0 k l1 true l0_0 l0_1)) = some r := H
  have A5 := Aside0.mk A50
  clear A50
  by_cases c6 : t319 = true
  ·
   subst c6
   have H1 : ((shape_Holds.f l0_0 l0_1 l1 (([1] : List Int))).bind fun t323 => (independent_Legit.j0 k l1 (!t323) l0_0 l0_1)) = some r := by rw [if_pos rfl] at H; exact H
   clear H
   have H := H1
   clear H1
   obtain ⟨y320, hy320⟩ : ∃ y_ : List Int, y_ = (([1] : List Int)) := ⟨_, rfl⟩
   replace H : ((shape_Holds.f l0_0 l0_1 l1 y320).bind fun t323 => (independent_Legit.j0 k l1 (!t323) l0_0 l0_1)) = some r := by first | (rw [hy320]; with_reducible exact H) | (have H2_ := (Option.bind_some _ _).symm.trans H; rw [hy320]; with_reducible exact H2_) | (have H2_ := (Option.bind_some _ _).symm.trans H; with_reducible exact H2_) | with_reducible exact H | (rw [hy320]; exact H) | exact H
   have Ny320 := Aside0.mk hy320
   clear hy320
   replace H := Option.bind_eq_some_iff.mp H
   obtain ⟨t323, A70, H⟩ := H
   replace H : (independent_Legit.j0 k l1 (!t323) l0_0 l0_1) = some r := H
   have A7 := Aside0.mk A70
   clear A70
   have H' := Aside0.mk H
   clear H
   have hcz8_0 : w4.cell? ⟨gb318, 0, none⟩ = some (.slice A0_0 l0_0.length c0_0) := (blk_cell BK318.out 0).trans rfl
   have hcz8_1 : w4.cell? ⟨gb318, 1, none⟩ = some (.slice A0_1 l0_1.length c0_1) := (blk_cell BK318.out 1).trans rfl
   have hfz8_0 := blk_frozen BK318.out 0
   have hfz8_1 := blk_frozen BK318.out 1
   go_wp2_with (first | ((with_reducible refine gate_callee (f := 30) rfl ?_); refine goesL_ (some 8) rfl rfl Try.func30 (by kernel_rfl) rfl #[.agg #[.slice A0_0 l0_0.length c0_0, .slice A0_1 l0_1.length c0_1]] rfl (by (try simp only [List.map_toArray, List.map_cons, List.map_nil]); first | done | rfl | (simp only [List.length_drop, List.length_take]; rfl)) ?_; (with_reducible refine (independent_Fit.calls _ _ l0_0 _ _ l0_1 true _ ?side1 ?side2 ?side3 ?side4 A5.out).mono ?_); (case side1 => repeat (first | exact (Kd.C_below HR0_0.out HB.out) | (with_reducible refine Kd.C_alloc ?_ _) | (with_reducible refine Kd.C_drewN ?_ _) | (with_reducible refine Kd.C_drew ?_))); (case side2 => exact HC0_0.out); (case side3 => repeat (first | exact (Kd.C_below HR0_1.out HB.out) | (with_reducible refine Kd.C_alloc ?_ _) | (with_reducible refine Kd.C_drewN ?_ _) | (with_reducible refine Kd.C_drew ?_))); (case side4 => exact HC0_1.out); rintro e w9 ⟨rfl, hb⟩; refine ⟨_, rfl, ?_⟩; have n0_ := Aside0.mk (blk_below (g := gb318) (o := .cells #[.slice A0_0 l0_0.length c0_0, .slice A0_1 l0_1.length c0_1] 27 (0, 0)) (by (with_reducible repeat (first | refine blk_drewN ?_ _ | refine blk_drew ?_ | refine blk_alloc ?_ _)); exact BK318.out) hb); have n1_ := Aside0.mk (below_step (by repeat (first | (with_reducible first | exact HB.out | apply below_alloc | apply pw_below_drewN | apply below_drew1 | refine below_set ?_ GE318.out) | exact HB.out)) hb); clear BK318; clear HB; have BK318 := n0_; have HB := n1_; clear n0_ n1_; (try clear hb); (try clear hb2); (try clear hk); (try clear hi); have hcz10_0 : w9.cell? ⟨gb318, 0, none⟩ = some (.slice A0_0 l0_0.length c0_0) := (blk_cell BK318.out 0).trans rfl; have hcz10_1 : w9.cell? ⟨gb318, 1, none⟩ = some (.slice A0_1 l0_1.length c0_1) := (blk_cell BK318.out 1).trans rfl; have hfz10_0 := blk_frozen BK318.out 0; have hfz10_1 := blk_frozen BK318.out 1) | ((with_reducible refine gate_dst (N := 13) rfl ?_); (try (refine gate_guard (by rfl) ?_; dsimp only)); refine Kd.R_lit (Kd.int .i64) _ 3 ?hg (N := 13) ?hd (xs := ([1] : List Int)) (inner := [.int .i64 1]) (ok := fun _ => True) (okp := fun _ => True) ?hr ?hp (fun _ hk => hk) trivial (Below.refl _ _) (Nat.le_refl _) (by simp) ?_; (case hd => rfl); (case hg => rfl); (case hr => first | (go_simp; done) | (go_simp; rfl)); (case hp => exact (Reps.one (show Kd.M (Kd.int .i64) _ _ _ 1 [.int .i64 1] from rfl) (Reps.none _ _))); intro v321 w11 ho12 hb hg_ hnew_; clear hg_ hnew_; (first | rw [← Ny320.out] at ho12 | (simp only [Int.reduceToNat] at ho12; rw [← Ny320.out] at ho12)); have n0_ := Aside0.mk (Kd.R_lower ho12 (below_size (by repeat (first | (with_reducible first | exact HB.out | apply below_alloc | apply pw_below_drewN | apply below_drew1 | refine below_set ?_ GE318.out) | exact HB.out)))); have n1_ := Aside0.mk (blk_below (g := gb318) (o := .cells #[.slice A0_0 l0_0.length c0_0, .slice A0_1 l0_1.length c0_1] 27 (0, 0)) (by (with_reducible repeat (first | refine blk_drewN ?_ _ | refine blk_drew ?_ | refine blk_alloc ?_ _)); exact BK318.out) hb); have n2_ := Aside0.mk (below_step (by repeat (first | (with_reducible first | exact HB.out | apply below_alloc | apply pw_below_drewN | apply below_drew1 | refine below_set ?_ GE318.out) | exact HB.out)) hb); clear BK318; clear HB; have HO322 := n0_; have BK318 := n1_; have HB := n2_; clear n0_ n1_ n2_; clear hb ho12; obtain ⟨Ao13, co13, eo13⟩ := Kd.R_slice HO322.out; subst eo13) | (go_at_call 73; (with_reducible refine (shape_Holds.calls _ _ l0_0 _ _ l0_1 _ _ l1 _ _ y320 t323 _ ?side1 ?side2 ?side3 ?side4 ?side5 ?side6 ?side7 ?side8 A7.out).mono ?_); (case side1 => repeat (first | exact (Kd.C_below HR0_0.out HB.out) | (with_reducible refine Kd.C_alloc ?_ _) | (with_reducible refine Kd.C_drewN ?_ _) | (with_reducible refine Kd.C_drew ?_))); (case side2 => exact HC0_0.out); (case side3 => repeat (first | exact (Kd.C_below HR0_1.out HB.out) | (with_reducible refine Kd.C_alloc ?_ _) | (with_reducible refine Kd.C_drewN ?_ _) | (with_reducible refine Kd.C_drew ?_))); (case side4 => exact HC0_1.out); (case side5 => repeat (first | exact (Kd.C_below HR1.out HB.out) | (with_reducible refine Kd.C_alloc ?_ _) | (with_reducible refine Kd.C_drewN ?_ _) | (with_reducible refine Kd.C_drew ?_))); (case side6 => exact HC1.out); (case side7 => repeat (first | exact (Kd.R_reads' HO322.out).2.2 | (with_reducible refine Kd.C_alloc ?_ _) | (with_reducible refine Kd.C_drewN ?_ _) | (with_reducible refine Kd.C_drew ?_))); (case side8 => exact (Kd.R_reads' HO322.out).2.1); rintro e w14 ⟨rfl, hb⟩; have n0_ := Aside0.mk (Kd.R_below (by (with_reducible repeat (first | apply Kd.R_alloc | apply Kd.R_drewN | apply Kd.R_drew)); exact HO322.out) hb); have n1_ := Aside0.mk (blk_below (g := gb318) (o := .cells #[.slice A0_0 l0_0.length c0_0, .slice A0_1 l0_1.length c0_1] 27 (0, 0)) (by (with_reducible repeat (first | refine blk_drewN ?_ _ | refine blk_drew ?_ | refine blk_alloc ?_ _)); exact BK318.out) hb); have n2_ := Aside0.mk (below_step (by repeat (first | (with_reducible first | exact HB.out | apply below_alloc | apply pw_below_drewN | apply below_drew1 | refine below_set ?_ GE318.out) | exact HB.out)) hb); clear HO322; clear BK318; clear HB; have HO322 := n0_; have BK318 := n1_; have HB := n2_; clear n0_ n1_ n2_; (try clear hb); (try clear hb2); (try clear hk); (try clear hi)))
   go_meet
   case rel => exact ⟨_, (!t323), (by first | rfl | (simp; done) | (simp [*]; done)), H', ⟨by first | omega | exact Nat.le_refl _⟩, ⟨by (with_reducible repeat (first | refine blk_drewN ?_ _ | refine blk_drew ?_ | refine blk_alloc ?_ _)); exact BK318.out⟩, ⟨by repeat (first | (with_reducible first | exact HB.out | apply below_alloc | apply pw_below_drewN | apply below_drew1 | refine below_set ?_ GE318.out) | exact HB.out)⟩⟩
  ·
   replace c6 := Bool.eq_false_iff.mpr c6
   subst c6
   have H1 : (independent_Legit.j0 k l1 true l0_0 l0_1) = some r := by rw [if_neg (show ¬ (false = true) by decide)] at H; exact H
   clear H
   have H := H1
   clear H1
   have H' := Aside0.mk H
   clear H
   have hcz15_0 : w4.cell? ⟨gb318, 0, none⟩ = some (.slice A0_0 l0_0.length c0_0) := (blk_cell BK318.out 0).trans rfl
   have hcz15_1 : w4.cell? ⟨gb318, 1, none⟩ = some (.slice A0_1 l0_1.length c0_1) := (blk_cell BK318.out 1).trans rfl
   have hfz15_0 := blk_frozen BK318.out 0
   have hfz15_1 := blk_frozen BK318.out 1
   go_wp2_with (first | ((with_reducible refine gate_callee (f := 30) rfl ?_); refine goesL_ (some 8) rfl rfl Try.func30 (by kernel_rfl) rfl #[.agg #[.slice A0_0 l0_0.length c0_0, .slice A0_1 l0_1.length c0_1]] rfl (by (try simp only [List.map_toArray, List.map_cons, List.map_nil]); first | done | rfl | (simp only [List.length_drop, List.length_take]; rfl)) ?_; (with_reducible refine (independent_Fit.calls _ _ l0_0 _ _ l0_1 false _ ?side1 ?side2 ?side3 ?side4 A5.out).mono ?_); (case side1 => repeat (first | exact (Kd.C_below HR0_0.out HB.out) | (with_reducible refine Kd.C_alloc ?_ _) | (with_reducible refine Kd.C_drewN ?_ _) | (with_reducible refine Kd.C_drew ?_))); (case side2 => exact HC0_0.out); (case side3 => repeat (first | exact (Kd.C_below HR0_1.out HB.out) | (with_reducible refine Kd.C_alloc ?_ _) | (with_reducible refine Kd.C_drewN ?_ _) | (with_reducible refine Kd.C_drew ?_))); (case side4 => exact HC0_1.out); rintro e w16 ⟨rfl, hb⟩; refine ⟨_, rfl, ?_⟩; have n0_ := Aside0.mk (blk_below (g := gb318) (o := .cells #[.slice A0_0 l0_0.length c0_0, .slice A0_1 l0_1.length c0_1] 27 (0, 0)) (by (with_reducible repeat (first | refine blk_drewN ?_ _ | refine blk_drew ?_ | refine blk_alloc ?_ _)); exact BK318.out) hb); have n1_ := Aside0.mk (below_step (by repeat (first | (with_reducible first | exact HB.out | apply below_alloc | apply pw_below_drewN | apply below_drew1 | refine below_set ?_ GE318.out) | exact HB.out)) hb); clear BK318; clear HB; have BK318 := n0_; have HB := n1_; clear n0_ n1_; (try clear hb); (try clear hb2); (try clear hk); (try clear hi)))
   go_meet
   case rel => exact ⟨_, (true), (by first | rfl | (simp; done) | (simp [*]; done)), H', ⟨by first | omega | exact Nat.le_refl _⟩, ⟨by (with_reducible repeat (first | refine blk_drewN ?_ _ | refine blk_drew ?_ | refine blk_alloc ?_ _)); exact BK318.out⟩, ⟨by repeat (first | (with_reducible first | exact HB.out | apply below_alloc | apply pw_below_drewN | apply below_drew1 | refine below_set ?_ GE318.out) | exact HB.out)⟩⟩
 case rest =>
  clear HC3
  try clear c1
  try clear p2
  try clear c3
  try clear c6
  try clear hcz10_0
  try clear hcz10_1
  try clear hcz15_0
  try clear hcz15_1
  try clear hcz8_0
  try clear hcz8_1
  try clear hfz10_0
  try clear hfz10_1
  try clear hfz15_0
  try clear hfz15_1
  try clear hfz8_0
  try clear hfz8_1
  obtain ⟨kq, x16_2, rfl, HA, HJ2, BK318, HB⟩ := hcut
  cases kq with
  | zero => exact absurd HA.out (by simp [independent_Legit.j0])
  | succ kj2 =>
   have H := HA.out
   clear HA
   simp only [independent_Legit.j0] at H
   by_cases c17 : x16_2 = true
   ·
    subst c17
    have H1 : (some false) = some r := by rw [if_pos rfl] at H; exact H
    clear H
    have H := H1
    clear H1
    obtain rfl := Option.some.inj H
    go_wp2
    go_ret
    exact ⟨by first | rfl | (simp [errW_none, errW_some] <;> rfl) | (simp [*, errW_none, errW_some] <;> rfl), by repeat (first | (with_reducible first | exact HB.out | apply below_alloc | apply pw_below_drewN | apply below_drew1 | refine below_set ?_ GE318.out) | exact HB.out)⟩
   ·
    replace c17 := Bool.eq_false_iff.mpr c17
    subst c17
    have H1 : ((shape_Where.f l1 0).bind fun t324 => ((graph_Neighbours.f l0_0 l0_1 t324).bind fun t325 => (some (t325 == (Go.bits .andNot .u32 (((shl .u32 1 (l1.length : Int)) - 1) % 4294967296) t324))))) = some r := by rw [if_neg (show ¬ (false = true) by decide)] at H; exact H
    clear H
    have H := H1
    clear H1
    replace H := Option.bind_eq_some_iff.mp H
    obtain ⟨t324, A180, H⟩ := H
    replace H : ((graph_Neighbours.f l0_0 l0_1 t324).bind fun t325 => (some (t325 == (Go.bits .andNot .u32 (((shl .u32 1 (l1.length : Int)) - 1) % 4294967296) t324)))) = some r := H
    have A18 := Aside0.mk A180
    clear A180
    obtain ⟨ji19, hji19⟩ : ∃ j_ : Int, (shl .u32 1 (l1.length : Int)) = j_ := ⟨_, rfl⟩
    replace H : ((graph_Neighbours.f l0_0 l0_1 t324).bind fun t325 => (some (t325 == (Go.bits .andNot .u32 (((ji19) - 1) % 4294967296) t324)))) = some r := by first | (rw [hji19] at H; exact H) | (simp only [hji19] at H ⊢; exact H)
    (try rw [hji19] at A18)
    have hji19_ : (IntKind.u32.wrap (1 * 2 ^ min (l1.length : Int).toNat 32)) = ji19 := hji19
    have hji19z : (l1.length : Int) ≤ 32 → (IntKind.u32.wrap (1 * 2 ^ (l1.length : Int).toNat)) = ji19 := shl_small hji19
    have hji19p : (IntKind.u32.wrap (1 * 2 ^ min l1.length 32)) = ji19 := hji19_
    have hji19q : (l1.length : Int) ≤ 32 → (IntKind.u32.wrap (1 * 2 ^ l1.length)) = ji19 := hji19z
    have hji19r : (IntKind.u32.wrap (2 ^ min l1.length 32)) = ji19 := by have h_ := hji19p; rw [Int.one_mul] at h_; exact h_
    have hji19s : (l1.length : Int) ≤ 32 → (IntKind.u32.wrap (2 ^ l1.length)) = ji19 := fun hle_ => by have h_ := hji19q hle_; rw [Int.one_mul] at h_; exact h_
    have hji19u : (IntKind.u32.wrap (2 ^ min (l1.length : Int).toNat 32)) = ji19 := by have h_ := hji19_; rw [Int.one_mul] at h_; exact h_
    have hji19v : (l1.length : Int) ≤ 32 → (IntKind.u32.wrap (2 ^ (l1.length : Int).toNat)) = ji19 := fun hle_ => by have h_ := hji19z hle_; rw [Int.one_mul] at h_; exact h_
    replace H := Option.bind_eq_some_iff.mp H
    obtain ⟨t325, A200, H⟩ := H
    replace H : (some (t325 == (Go.bits .andNot .u32 (((ji19) - 1) % 4294967296) t324))) = some r := H
    have A20 := Aside0.mk A200
    clear A200
    obtain rfl := Option.some.inj H
    go_wp2_with (first | ((with_reducible refine gate_callee (f := 74) rfl ?_); refine goesL_ (some 18) rfl rfl Try.func74 (by kernel_rfl) rfl #[.slice A1 l1.length c1, .int .i64 0] rfl (by (try simp only [List.map_toArray, List.map_cons, List.map_nil]); first | done | rfl | (simp only [List.length_drop, List.length_take]; rfl)) ?_; (with_reducible refine (shape_Where.calls _ _ l1 0 t324 _ ?side1 ?side2 A18.out).mono ?_); (case side1 => repeat (first | exact (Kd.C_below HR1.out HB.out) | (with_reducible refine Kd.C_alloc ?_ _) | (with_reducible refine Kd.C_drewN ?_ _) | (with_reducible refine Kd.C_drew ?_))); (case side2 => exact HC1.out); rintro e w' ⟨rfl, ⟨nd, rfl⟩⟩; refine ⟨_, rfl, ?_⟩; have hcz21_0 : wc.cell? ⟨gb318, 0, none⟩ = some (.slice A0_0 l0_0.length c0_0) := (blk_cell BK318.out 0).trans rfl; have hcz21_1 : wc.cell? ⟨gb318, 1, none⟩ = some (.slice A0_1 l0_1.length c0_1) := (blk_cell BK318.out 1).trans rfl; have hfz21_0 := blk_frozen BK318.out 0; have hfz21_1 := blk_frozen BK318.out 1) | ((with_reducible refine gate_callee (f := 78) rfl ?_); refine goesL_ (some 25) rfl rfl Try.func78 (by kernel_rfl) rfl #[.agg #[.slice A0_0 l0_0.length c0_0, .slice A0_1 l0_1.length c0_1], .int .u32 t324] rfl (by (try simp only [List.map_toArray, List.map_cons, List.map_nil]); first | done | rfl | (simp only [List.length_drop, List.length_take]; rfl)) ?_; (with_reducible refine (graph_Neighbours.calls _ _ l0_0 _ _ l0_1 t324 t325 _ ?side1 ?side2 ?side3 ?side4 A20.out).mono ?_); (case side1 => repeat (first | exact (Kd.C_below HR0_0.out (by repeat (first | (with_reducible first | exact HB.out | apply below_alloc | apply pw_below_drewN | apply below_drew1 | refine below_set ?_ GE318.out) | exact HB.out))) | (with_reducible refine Kd.C_alloc ?_ _) | (with_reducible refine Kd.C_drewN ?_ _) | (with_reducible refine Kd.C_drew ?_))); (case side2 => exact HC0_0.out); (case side3 => repeat (first | exact (Kd.C_below HR0_1.out (by repeat (first | (with_reducible first | exact HB.out | apply below_alloc | apply pw_below_drewN | apply below_drew1 | refine below_set ?_ GE318.out) | exact HB.out))) | (with_reducible refine Kd.C_alloc ?_ _) | (with_reducible refine Kd.C_drewN ?_ _) | (with_reducible refine Kd.C_drew ?_))); (case side4 => exact HC0_1.out); rintro e w22 ⟨rfl, hb⟩; refine ⟨_, rfl, ?_⟩; have n0_ := Aside0.mk (blk_below (g := gb318) (o := .cells #[.slice A0_0 l0_0.length c0_0, .slice A0_1 l0_1.length c0_1] 27 (0, 0)) (by (with_reducible repeat (first | refine blk_drewN ?_ _ | refine blk_drew ?_ | refine blk_alloc ?_ _)); exact BK318.out) hb); have n1_ := Aside0.mk (below_step (by repeat (first | (with_reducible first | exact HB.out | apply below_alloc | apply pw_below_drewN | apply below_drew1 | refine below_set ?_ GE318.out) | exact HB.out)) hb); clear BK318; clear HB; have BK318 := n0_; have HB := n1_; clear n0_ n1_; (try clear hb); (try clear hb2); (try clear hk); (try clear hi)))
    go_ret
    exact ⟨by first | rfl | (simp [errW_none, errW_some] <;> rfl) | (simp only [← hji19]; first | rfl | (simp [errW_none, errW_some] <;> rfl)) | (simp [*, errW_none, errW_some] <;> rfl), by repeat (first | (with_reducible first | exact HB.out | apply below_alloc | apply pw_below_drewN | apply below_drew1 | refine below_set ?_ GE318.out) | exact HB.out)⟩
end Go.Proofs.YthapikakneikbaaG
/-
  A graph that the world's functions make, in the printed texts' words: its rows are the call's own.
-/
namespace Go.Proofs.YthapikakneikbaaG
open Go.RowKit Go.Proofs.YthapikakneikbaaW.PrintWords
theorem reps_ints {w : World} {base : Nat} {ok : Nat → Prop} (xs : List Int) : Reps ((Kd.int .i64).M w base ok) 1 xs (Go.Proofs.Ythapikakneikbaa.icells xs) := by
  refine ⟨by simp [Go.Proofs.Ythapikakneikbaa.icells], fun j p hj => ?_⟩
  have hl := (List.getElem?_eq_some_iff.1 hj).1
  show _ = [Value.int .i64 p]
  rw [Nat.mul_one, List.take_one, List.head?_drop]
  simp [Go.Proofs.Ythapikakneikbaa.icells, hj]
theorem own_ints {w : World} {B n : Nat} {v : Value} {xs : List Int} (hn : xs.length = n) (h : w.ownsRow B 3 1 v n (Go.Proofs.Ythapikakneikbaa.icells xs)) : Kd.R (Kd.int .i64) 3 w B (fun _ => True) v xs :=
  ⟨fun _ _ => trivial, Go.Proofs.Ythapikakneikbaa.icells xs, by rw [hn]; exact h, reps_ints xs⟩
def ofL (l : Go.Proofs.Ythapikakneikbaa.Link) : S60 := ⟨l.to_, l.wt⟩
theorem reps_links {w : World} {base : Nat} {ok : Nat → Prop} (ps : List Go.Proofs.Ythapikakneikbaa.Link) : Reps (k60.M w base ok) 2 (ps.map ofL) (Go.Proofs.Ythapikakneikbaa.lcells ps) := by
  refine ⟨by rw [Go.Proofs.Ythapikakneikbaa.lcells_length, List.length_map], fun j p hj => ?_⟩
  rw [List.getElem?_map] at hj
  obtain ⟨l, hl, rfl⟩ := Option.map_eq_some_iff.1 hj
  obtain ⟨g0, g1⟩ := Go.Proofs.Ythapikakneikbaa.lcells_get hl
  have : ((Go.Proofs.Ythapikakneikbaa.lcells ps).drop (j * 2)).take 2 = [.int .i64 l.to_, .int .i64 l.wt] := by
    apply List.ext_getElem?
    intro i
    rw [List.getElem?_take]
    match i with
    | 0 => simpa using g0
    | 1 => simpa using g1
    | i + 2 =>
      have : ¬ i + 2 < 2 := by omega
      simp [this]
  rw [this]
  exact k60_mkM w base ok (ofL l)
/-- The rows of links, and the row that leads to them. -/
theorem own_ports {w : World} {B P n : Nat} {vs : List Value} {rows : List (List Go.Proofs.Ythapikakneikbaa.Link)} (hn : rows.length = n) (hm : n ≤ 1000) (h : Go.Proofs.Ythapikakneikbaa.PortsAt w B P vs rows) :
    Kd.S (Kd.slice 60 k60) 52 w B (fun _ => True) (.slice (some ⟨P, 0, none⟩) n n) (rows.map (List.map ofL)) := by
  have hl : vs.length = n := h.rows.len.trans hn
  open Classical in
  refine ⟨fun k => if hk : ∃ (u : Nat) (v : Value), vs[u]? = some v ∧ v.ownBlock = some k then Classical.choose hk else 0, fun _ _ => trivial, vs, ?_, ?_⟩
  · rw [List.length_zipIdx, List.length_map, hn]
    refine ⟨by show vs.length = n * 1; omega, .inr ⟨P, n, vs.toArray, rfl, h.hP, h.blk, Nat.le_refl _, by unfold maxLen; omega, ?_, ?_⟩⟩
    · show vs.toArray.size = n * 1
      simp [hl]
    · show List.take (n * 1) vs.toArray.toList = vs
      rw [Nat.mul_one]
      exact List.take_of_length_le (by simp [hl])
  · refine ⟨by rw [List.length_zipIdx, List.length_map, h.rows.len]; exact (Nat.mul_one _).symm, fun j p hj => ?_⟩
    rw [List.getElem?_zipIdx] at hj
    obtain ⟨r, hr, rfl⟩ := Option.map_eq_some_iff.1 hj
    rw [List.getElem?_map] at hr
    obtain ⟨ps, hps, rfl⟩ := Option.map_eq_some_iff.1 hr
    have hjl := (List.getElem?_eq_some_iff.1 hps).1
    have hv := List.getElem?_eq_getElem (l := vs) (i := j) (by omega)
    generalize vs[j]'(by omega) = v at hv
    have ho := h.rows.own j v ps hv hps
    have hfar := h.far v (List.mem_of_getElem? hv)
    have e1 : (vs.drop (j * (Kd.tag (fun k => if hk : ∃ (u : Nat) (v : Value), vs[u]? = some v ∧ v.ownBlock = some k then Classical.choose hk else 0) (Kd.slice 60 k60)).sz)).take (Kd.tag (fun k => if hk : ∃ (u : Nat) (v : Value), vs[u]? = some v ∧ v.ownBlock = some k then Classical.choose hk else 0) (Kd.slice 60 k60)).sz = [v] := by
      show List.take 1 (List.drop (j * 1) vs) = [v]
      rw [Nat.mul_one, List.take_one, List.head?_drop, hv]
      rfl
    rw [e1]
    refine ⟨v, rfl, fun k hk => ⟨⟨trivial, ?_⟩, ?_⟩, Go.Proofs.Ythapikakneikbaa.lcells ps, by rw [List.length_map]; exact ho, reps_links ps⟩
    · intro e
      rw [hk] at hfar
      exact hfar (e.trans rfl)
    · have hex : ∃ (u : Nat) (v : Value), vs[u]? = some v ∧ v.ownBlock = some k := ⟨j, v, hv, hk⟩
      show (if hk : ∃ (u : Nat) (v : Value), vs[u]? = some v ∧ v.ownBlock = some k then Classical.choose hk else 0) = 0 + j
      rw [dif_pos hex, Nat.zero_add]
      obtain ⟨v', hv', hk'⟩ := Classical.choose_spec hex
      by_cases e : Classical.choose hex = j
      · exact e
      · rcases h.rows.apart _ _ _ _ hv' hv e with h1 | h1
        · rw [hk'] at h1; cases h1
        · exact absurd (hk'.trans hk.symm) h1
end Go.Proofs.YthapikakneikbaaG
namespace Go.Proofs.YthapikakneikbaaG
open Go.RowKit Go.Proofs.YthapikakneikbaaW.PrintWords Go.Proofs.YthapikakneikbaaW.PrintLast Go.Proofs.YthapikakneikbaaW.PrintMore
attribute [local go_sem] max2_int min2_int max_two min_two max_three min_three max_four min_four   -- for this text's walks alone
set_option linter.unusedVariables false
set_option linter.unusedSimpArgs false
/-! ### selfstabworld_Net_Tree: function 77 -/
def selfstabworld_Net_Tree.f (a0_0 : Int) (l0_1 : List Int) (l0_2 : List Int) (l0_3 : List Int) (a0_4 : Bool) (a0_5 : Bool) (a1 : Int) : Option (List Int × (List (List (S60)))) :=
 if 1 ≤ a1 ∧ a1 ≤ 24 then some ((Go.Proofs.Ythapikakneikbaa.Net.treeG ⟨a0_0, l0_1, l0_2, l0_3, a0_4, a0_5⟩ a1).ids, (Go.Proofs.Ythapikakneikbaa.Net.treeG ⟨a0_0, l0_1, l0_2, l0_3, a0_4, a0_5⟩ a1).ports.map (List.map ofL)) else none
theorem selfstabworld_Net_Tree.calls (a0_0 : Int) (A0_1 : Option Addr) (c0_1 : Nat) (l0_1 : List Int) (A0_2 : Option Addr) (c0_2 : Nat) (l0_2 : List Int) (A0_3 : Option Addr) (c0_3 : Nat) (l0_3 : List Int) (a0_4 : Bool) (a0_5 : Bool) (a1 : Int) (r1 : List Int) (r2 : List (List (S60))) (w : World) (hr0_1 : Kd.C (Kd.int .i64) w A0_1 l0_1.length l0_1) (hc0_1 : l0_1.length ≤ c0_1) (hr0_2 : Kd.C (Kd.int .i64) w A0_2 l0_2.length l0_2) (hc0_2 : l0_2.length ≤ c0_2) (hr0_3 : Kd.C (Kd.int .i64) w A0_3 l0_3.length l0_3) (hc0_3 : l0_3.length ≤ c0_3) (h : selfstabworld_Net_Tree.f a0_0 l0_1 l0_2 l0_3 a0_4 a0_5 a1 = some (r1, r2)) :
  Calls Try.prog 77 #[.agg #[.int .i64 a0_0, .slice A0_1 l0_1.length c0_1, .slice A0_2 l0_2.length c0_2, .slice A0_3 l0_3.length c0_3, .bool a0_4, .bool a0_5], .int .i64 a1] w fun e w' => ∃ v0_ v1_ : Value, e = .returned (.agg #[v0_, v1_]) ∧ Kd.R (Kd.int .i64) 3 w' w.heap.size (fun _ => True) v0_ r1 ∧ Kd.S (Kd.slice 60 k60) 52 w' w.heap.size (fun _ => True) v1_ r2 ∧ Below w.heap.size w w' := by
 unfold selfstabworld_Net_Tree.f at h
 by_cases hm : 1 ≤ a1 ∧ a1 ≤ 24
 ·
  rw [if_pos hm] at h
  injection h with h
  injection h with e1 e2
  have hb := Go.Proofs.Ythapikakneikbaa.Net.n_bd ⟨a0_0, l0_1, l0_2, l0_3, a0_4, a0_5⟩ hm.1
  refine (Go.Proofs.Ythapikakneikbaa.tree_n w ⟨a0_0, l0_1, l0_2, l0_3, a0_4, a0_5⟩ A0_1 A0_2 A0_3 c0_1 c0_2 c0_3 ⟨C_ints hr0_1, C_ints hr0_2, C_ints hr0_3⟩ a1 hm.1 hm.2).mono ?_
  rintro e w' ⟨A, c, P, vs, rfl, ⟨h1, h2, h3⟩, ho, hp, hbl⟩
  subst e1 e2
  exact ⟨_, _, rfl, own_ints h2 ho, own_ports h3 (by omega) hp, hbl⟩
 ·
  rw [if_neg hm] at h
  cases h
end Go.Proofs.YthapikakneikbaaG
