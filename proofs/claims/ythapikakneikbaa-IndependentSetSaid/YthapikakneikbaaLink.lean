/-
  selfstabworld.Net.link: a link is added to a graph that is being made. (Written by wip/gen/link.py.)
-/
import Derived.Test.YthapikakneikbaaLinked
import Derived.Test.YthapikakneikbaaReg
import Derived.Deep.AppendLies
namespace Go.Proofs.Ythapikakneikbaa
open Go.RowKit
set_option linter.unusedSimpArgs false

def addLink (back : Bool) (r : List Link) (l : Link) : List Link := if back then l :: r else r ++ [l]
/-- The ports when the link between ka and kb has been added, if there is none yet. -/
def linkRows (back : Bool) (rows : List (List Link)) (ka kb : Nat) (wt : Int) : List (List Link) :=
  if ka = kb ∨ linkedB rows ka kb = true then rows else (rows.set ka (addLink back (rows.getD ka []) ⟨kb, wt⟩)).set kb (addLink back (rows.getD kb []) ⟨ka, wt⟩)
def link.T6 : Bool × List (List Nat × List Nat) := (true, [([], []), ([0], [0]), ([], []), ([], []), ([3], [3]), ([], []), ([], []), ([6], [6]), ([], []), ([7, 8], [7, 8]), ([9], [9]), ([], []), ([11], [11]), ([10, 12], [10, 12]), ([], []), ([14], [14]), ([], []), ([15, 16], [15, 16]), ([17], [17]), ([], []), ([19], [19]), ([18, 20, 13], [18, 20]), ([1, 2, 0, 1, 2, 6, 7, 8, 9, 10, 11, 12, 13, 18, 21], [1, 2]), ([22, 13, 21, 0, 1, 2, 6, 7, 8, 9, 10, 11, 12, 13, 18, 21], [13, 22]), ([4, 5, 0, 1, 2, 3, 4, 5, 6, 7, 8, 9, 10, 11, 12, 13, 14, 15, 16, 17, 18, 19, 20, 21, 22, 23], [4, 5]), ([24, 21, 23, 0, 1, 2, 3, 4, 5, 6, 7, 8, 9, 10, 11, 12, 13, 14, 15, 16, 17, 18, 19, 20, 21, 22, 23], [21, 24])])
def link.B6 : List Nat := [0, 1, 0, 0, 8, 0, 0, 64, 0, 448, 960, 0, 2048, 8128, 0, 16384, 0, 114688, 245760, 0, 524288, 2097088, 4194247, 8388551, 16777215, 33554431]
theorem link.tab6 : rtab .any (opsOf Try.f115 6) = link.T6 := by kernel_rfl
theorem link.bits6 : waitsOk link.T6.2 link.B6 = true := by kernel_rfl

/-- What the walk has behind the call of 'linked' and the two links' variables. -/
structure LinkAt (W : World) (base P gz lz : Nat) (vs : List Value) (rows : List (List Link)) (ka kb : Nat) (wt : Int) : Prop where
  pa : PortsAt W base P vs rows
  e0 : W.cell? ⟨gz + 1, 1, none⟩ = some (.slice (some ⟨P, 0, none⟩) rows.length rows.length)
  e1 : W.cell? ⟨lz, 0, none⟩ = some (.int .i64 kb)
  e2 : W.cell? ⟨lz, 1, none⟩ = some (.int .i64 wt)
  e3 : W.cell? ⟨lz + 1, 0, none⟩ = some (.int .i64 ka)
  e4 : W.cell? ⟨lz + 1, 1, none⟩ = some (.int .i64 wt)

def LinkPost (base P : Nat) (rows' : List (List Link)) (w w' : World) (e : Ending) : Prop := e = .returned (.tuple #[]) ∧ (∃ vs', PortsAt w' base P vs' rows') ∧ Below base w w' ∧ Spared w w'

set_option maxHeartbeats 8000000 in
set_option maxRecDepth 100000 in
theorem link_calls (w : World) (N : Int) (vL vW vI : Value) (ap back : Bool) (v0 : Value) (base P : Nat) (vs : List Value) (rows : List (List Link)) (hp : PortsAt w base P vs rows) (hbase : base ≤ w.heap.size)
    (hn : rows.length ≤ 24) (hrl : ∀ r ∈ rows, r.length ≤ 1000) (ka kb : Nat) (ha : ka < rows.length) (hb : kb < rows.length) (wt : Int) :
    Calls Try.prog 115 #[.agg #[.int .i64 N, vL, vW, vI, .bool ap, .bool back], .agg #[v0, .slice (some ⟨P, 0, none⟩) rows.length rows.length], .int .i64 ka, .int .i64 kb, .int .i64 wt] w
      fun e w' => LinkPost base P (linkRows back rows ka kb wt) w w' e := by
  obtain ⟨i0, hi0, hz0, hz1, hz2⟩ := info_parts infoLink
  have HP := Lib.hid hp
  have HR := Lib.hid (hp.reads (by omega))
  have hPw := blk_lt hp.blk
  by_cases hab : ka = kb
  · have hE : Hid (linkRows back rows ka kb wt = rows) := by unfold Hid linkRows; rw [if_pos (.inl hab)]
    have t1 : ((ka : Int) == (kb : Int)) = true := by simp [hab]
    clear hab hp hrl
    go_enter Try.func115, Try.ntmps115
    go_wp2_with fail
    refine bodyPost_ret (v := .tuple #[]) (by simp [results, Try.results115, go_sem]) rfl ?_
    exact ⟨rfl, ⟨vs, by rw [hE.out]; exact (HP.out.alloc _).alloc _⟩, ((Below.refl _ _).alloc hbase _).alloc (by simp; omega) _, ((Spared.refl _).alloc _).alloc _⟩
  have t1 : ((ka : Int) == (kb : Int)) = false := by rw [beq_eq_false_iff_ne]; omega
  have hb0 := ((Below.refl w.heap.size w).alloc (Nat.le_refl _) (.cells #[.int .i64 N, vL, vW, vI, .bool ap, .bool back] 24)).alloc (by simp) (.cells #[v0, .slice (some ⟨P, 0, none⟩) rows.length rows.length] 27)
  have HR0 := Lib.hid (Kd.C_below HR.out hb0)
  have HB0 := Lib.hid hb0
  clear hb0
  cases hlk : linkedB rows ka kb with
  | true =>
    have hE : Hid (linkRows back rows ka kb wt = rows) := by unfold Hid linkRows; rw [if_pos (.inr hlk)]
    have HLK := Lib.hid hlk
    clear hlk hp hrl
    go_enter Try.func115, Try.ntmps115
    go_wp2_with fail
    refine (linked_calls _ _ _ _ _ HR0.out ka ha kb).mono ?_
    rintro e w1 ⟨rfl, hb1⟩
    rw [HLK.out]
    have HB1 := Lib.hid hb1
    clear hb1
    go_wp2_with fail
    refine bodyPost_ret (v := .tuple #[]) (by simp [results, Try.results115, go_sem]) rfl ?_
    exact ⟨rfl, ⟨vs, by rw [hE.out]; exact ((HP.out.alloc _).alloc _).below HB1.out⟩, (((Below.refl _ _).alloc hbase _).alloc (by simp; omega) _).trans (HB1.out.mono (by simp; omega)), (((Spared.refl _).alloc _).alloc _).below HB1.out⟩
  | false =>
    have HLK := Lib.hid hlk
    have hE : Hid (linkRows back rows ka kb wt = (rows.set ka (addLink back (rows.getD ka []) ⟨kb, wt⟩)).set kb (addLink back (rows.getD kb []) ⟨ka, wt⟩)) := by unfold Hid linkRows; rw [if_neg (by rintro (h | h); exact hab h; rw [h] at hlk; cases hlk)]
    have hvl : vs.length = rows.length := hp.rows.len
    obtain ⟨va, hva⟩ : ∃ va, vs[ka]? = some va := ⟨_, List.getElem?_eq_getElem (by omega)⟩
    obtain ⟨vb, hvb⟩ : ∃ vb, vs[kb]? = some vb := ⟨_, List.getElem?_eq_getElem (by omega)⟩
    obtain ⟨ra, hra⟩ : ∃ ra, rows[ka]? = some ra := ⟨_, List.getElem?_eq_getElem ha⟩
    obtain ⟨rb, hrb⟩ : ∃ rb, rows[kb]? = some rb := ⟨_, List.getElem?_eq_getElem hb⟩
    have HGa : Hid (rows.getD ka [] = ra) := by unfold Hid; simp [List.getD_eq_getElem?_getD, hra]
    have HGb : Hid (rows.getD kb [] = rb) := by unfold Hid; simp [List.getD_eq_getElem?_getD, hrb]
    have hla := hrl ra (List.mem_of_getElem? hra)
    have hlb := hrl rb (List.mem_of_getElem? hrb)
    have Ha := Lib.hid hva
    have HA := Lib.hid hva
    have Hb := Lib.hid hvb
    have HRa := Lib.hid hra
    have HRb := Lib.hid hrb
    have HLa := Lib.hid hla
    have HLb := Lib.hid hlb
    have Lta : Hid (∀ k, va.ownBlock = some k → k < w.heap.size) := own_lt (hp.rows.own ka va ra hva hra)
    have Ltb : Hid (∀ k, vb.ownBlock = some k → k < w.heap.size) := own_lt (hp.rows.own kb vb rb hvb hrb)
    have HBa : Hid (∀ k, va.ownBlock = some k → base ≤ k) := fun k hk => (own_typed (hp.rows.own ka va ra hva hra) k hk).1
    have HBb : Hid (∀ k, vb.ownBlock = some k → base ≤ k) := fun k hk => (own_typed (hp.rows.own kb vb rb hvb hrb) k hk).1
    have NPa : Hid (some P ≠ va.ownBlock) := fun e => hp.far va (List.mem_of_getElem? hva) e.symm
    have NPb : Hid (some P ≠ vb.ownBlock) := fun e => hp.far vb (List.mem_of_getElem? hvb) e.symm
    have hne1 : ka ≠ kb := hab
    have hne2 : kb ≠ ka := fun e => hab e.symm
    have haL : ka < vs.length := by omega
    have hbL : kb < vs.length := by omega
    have hPb := hp.hP
    have ha0 : (0 : Int) ≤ (ka : Int) := by omega
    have ha1 : (ka : Int) < (rows.length : Int) := by omega
    have hb0 : (0 : Int) ≤ (kb : Int) := by omega
    have hb1 : (kb : Int) < (rows.length : Int) := by omega
    clear hlk hp hrl hva hvb hra hrb hab hla hlb
    have KEY : Hid (∀ (lz : Nat) (W : World), LinkAt W base P w.heap.size lz vs rows ka kb wt → w.heap.size ≤ lz → lz + 2 = W.heap.size → True) := fun _ _ _ _ _ => trivial
    clear KEY
    cases back with
    | true =>
      go_enter Try.func115, Try.ntmps115
      go_wp2_with fail
      refine (linked_calls _ _ _ _ _ HR0.out ka ha kb).mono ?_
      rintro e w1 ⟨rfl, hb1⟩
      rw [HLK.out]
      have hzq := hb1.size
      simp only [World.size_alloc] at hzq
      have hcG := cell_b hb1 (cell_at_new (w := w.alloc (.cells #[.int .i64 N, vL, vW, vI, .bool ap, .bool true] 24)) (cs := #[v0, .slice (some ⟨P, 0, none⟩) rows.length rows.length]) (t := 27) (k := w.heap.size + 1) (j := 1) (by simp) rfl)
      have hcX := cell_b hb1 (cell_a (.cells #[v0, .slice (some ⟨P, 0, none⟩) rows.length rows.length] 27) (cell_at_new (w := w) (cs := #[.int .i64 N, vL, vW, vI, .bool ap, .bool true]) (t := 24) (k := w.heap.size) (j := 5) rfl rfl))
      have hPA := ((HP.out.alloc (.cells #[.int .i64 N, vL, vW, vI, .bool ap, .bool true] 24)).alloc (.cells #[v0, .slice (some ⟨P, 0, none⟩) rows.length rows.length] 27)).below hb1
      have HPA := Lib.hid hPA
      have HSF1 := Lib.hid ((((Spared.refl w).alloc (.cells #[.int .i64 N, vL, vW, vI, .bool ap, .bool true] 24)).alloc (.cells #[v0, .slice (some ⟨P, 0, none⟩) rows.length rows.length] 27)).below hb1)
      have HB1 := Lib.hid ((((Below.refl base w).alloc hbase _).alloc (by simp; omega) _).trans (hb1.mono (by simp; omega)))
      clear hb1 hPA HR0 HR HP HB0
      have hxw : w.heap.size < w1.heap.size := by omega
      go_wp2_with fail
      generalize hW : (w1.alloc _).alloc _ = W
      have cG : W.cell? ⟨w.heap.size + 1, 1, none⟩ = some (.slice (some ⟨P, 0, none⟩) rows.length rows.length) := by rw [← hW]; exact cell_a _ (cell_a _ hcG)
      have cL0 : W.cell? ⟨w1.heap.size, 0, none⟩ = some (.int .i64 kb) := by rw [← hW]; exact cell_a _ (cell_at_new rfl rfl)
      have cL1 : W.cell? ⟨w1.heap.size, 1, none⟩ = some (.int .i64 wt) := by rw [← hW]; exact cell_a _ (cell_at_new rfl rfl)
      have cM0 : W.cell? ⟨w1.heap.size + 1, 0, none⟩ = some (.int .i64 ka) := by rw [← hW]; exact cell_at_new (by simp) rfl
      have cM1 : W.cell? ⟨w1.heap.size + 1, 1, none⟩ = some (.int .i64 wt) := by rw [← hW]; exact cell_at_new (by simp) rfl
      have hPW0 : PortsAt W base P vs rows := by rw [← hW]; exact (HPA.out.alloc _).alloc _
      have blk0 := hPW0.blk
      have R0 := hPW0.rows.drew
      have hWz : W.heap.size = w1.heap.size + 2 := by rw [← hW]; simp
      have HBW : Hid (Below base w W) := by unfold Hid; rw [← hW]; exact (HB1.out.alloc (by omega) _).alloc (by simp; omega) _
      have HSFW : Hid (Spared w W) := by unfold Hid; rw [← hW]; exact (HSF1.out.alloc _).alloc _
      have hbW : base ≤ W.heap.size := by omega
      have hPW : P < W.heap.size := by omega
      have hPG : P ≠ w.heap.size + 1 := by omega
      have hPL : P ≠ w1.heap.size := by omega
      have hPM : P ≠ w1.heap.size + 1 := by omega
      have La : Hid (∀ k, va.ownBlock = some k → k < W.heap.size) := fun k hk => by have := Lta.out k hk; omega
      have Lb : Hid (∀ k, vb.ownBlock = some k → k < W.heap.size) := fun k hk => by have := Ltb.out k hk; omega
      clear hW hcG hcX
      have e0 := cG
      have e1 := cL0
      have e2 := cL1
      have e3 := cM0
      have e4 := cM1
      have e5 := port_cell blk0 HA.out
      have HR0 : Hid (Rows W base vs rows) := hPW0.rows
      have HB0 : Hid (W.heap[P]? = some (.cells vs.toArray 52 (0, 0))) := blk0
      have HWa := HA
      have HRWa := HRa
      have hGW : w.heap.size + 1 < W.heap.size := by omega
      have hLW : w1.heap.size < W.heap.size := by omega
      have hMW : w1.heap.size + 1 < W.heap.size := by omega
      clear cG cL0 cL1 cM0 cM1 blk0 R0 hPW0 hWz
      refine start_ (n := 13) (S := fun w' => w'.cell? ⟨w.heap.size + 1, 1, none⟩ = some (.slice (some ⟨P, 0, none⟩) rows.length rows.length) ∧ w'.cell? ⟨w1.heap.size, 0, none⟩ = some (.int .i64 kb) ∧ w'.cell? ⟨w1.heap.size, 1, none⟩ = some (.int .i64 wt) ∧ w'.cell? ⟨w1.heap.size + 1, 0, none⟩ = some (.int .i64 ka) ∧ w'.cell? ⟨w1.heap.size + 1, 1, none⟩ = some (.int .i64 wt) ∧ w'.cell? ⟨P, ka, none⟩ = some va) (ds := [12]) #[false, false, false, false, false, false, false, false, false, false, false, false, false] (by kernel_rfl) rfl rfl ⟨e0, e1, e2, e3, e4, e5⟩ (fun hHeld => ?_)
      refine pure_ (i := 0) (N := some 29) (v := ?_) (a' := ?_) #[true, false, false, false, false, false, false, false, false, false, false, false, false] rfl rfl (by kernel_rfl) (fun _ _ _ h => h) (Or.inl ⟨by rfl, ?_⟩) ?_ ?_
      rotate_left
      · intro w'
        go_simp
        with_reducible rfl
      rotate_left
      · simp only [Act.put, List.setIfInBounds_toArray, List.set_cons_zero, List.set_cons_succ, i64_w, i32_w]
        rfl
      refine pure_ (i := 2) (N := some 31) (v := ?_) (a' := ?_) #[true, false, true, false, false, false, false, false, false, false, false, false, false] rfl rfl (by kernel_rfl) (fun _ _ _ h => h) (Or.inl ⟨by rfl, ?_⟩) ?_ ?_
      rotate_left
      · intro w'
        go_simp
        with_reducible rfl
      rotate_left
      · simp only [Act.put, List.setIfInBounds_toArray, List.set_cons_zero, List.set_cons_succ, i64_w, i32_w]
        rfl
      refine pure_ (i := 5) (N := some 34) (v := ?_) (a' := ?_) #[true, false, true, false, false, true, false, false, false, false, false, false, false] rfl rfl (by kernel_rfl) (fun _ _ _ h => h) (Or.inl ⟨by rfl, ?_⟩) ?_ ?_
      rotate_left
      · intro w'
        go_simp
        with_reducible rfl
      rotate_left
      · simp only [Act.put, List.setIfInBounds_toArray, List.set_cons_zero, List.set_cons_succ, i64_w, i32_w]
        rfl
      refine pure_ (i := 7) (N := some 36) (v := ?_) (a' := ?_) #[true, false, true, false, false, true, false, true, false, false, false, false, false] rfl rfl (by kernel_rfl) (fun _ _ _ h => h) (Or.inl ⟨by rfl, ?_⟩) ?_ ?_
      rotate_left
      · intro w'
        go_simp
        with_reducible rfl
      rotate_left
      · simp only [Act.put, List.setIfInBounds_toArray, List.set_cons_zero, List.set_cons_succ, i64_w, i32_w]
        rfl
      refine take_ (i := 1) (N := some 30) (v := ?_) (a' := ?_) #[true, true, true, false, false, true, false, true, false, false, false, false, false] rfl rfl (by kernel_rfl) (fun _ _ _ h => h) (Or.inl ⟨by rfl, ?_⟩) hHeld ?_ ?_
      rotate_left
      · rintro w' ⟨s0, s1, s2, s3, s4, s5⟩
        go_simp
        with_reducible rfl
      rotate_left
      · simp only [Act.put, List.setIfInBounds_toArray, List.set_cons_zero, List.set_cons_succ, i64_w, i32_w]
        rfl
      refine take_ (i := 3) (N := some 32) (v := ?_) (a' := ?_) #[true, true, true, true, false, true, false, true, false, false, false, false, false] rfl rfl (by kernel_rfl) (fun _ _ _ h => h) (Or.inl ⟨by rfl, ?_⟩) hHeld ?_ ?_
      rotate_left
      · rintro w' ⟨s0, s1, s2, s3, s4, s5⟩
        go_simp
        with_reducible rfl
      rotate_left
      · simp only [Act.put, List.setIfInBounds_toArray, List.set_cons_zero, List.set_cons_succ, i64_w, i32_w]
        rfl
      refine take_ (i := 6) (N := some 35) (v := ?_) (a' := ?_) #[true, true, true, true, false, true, true, true, false, false, false, false, false] rfl rfl (by kernel_rfl) (fun _ _ _ h => h) (Or.inl ⟨by rfl, ?_⟩) hHeld ?_ ?_
      rotate_left
      · rintro w' ⟨s0, s1, s2, s3, s4, s5⟩
        go_simp
        with_reducible rfl
      rotate_left
      · simp only [Act.put, List.setIfInBounds_toArray, List.set_cons_zero, List.set_cons_succ, i64_w, i32_w]
        rfl
      refine pure_ (i := 8) (N := some 37) (v := ?_) (a' := ?_) #[true, true, true, true, false, true, true, true, true, false, false, false, false] rfl rfl (by kernel_rfl) (fun _ _ _ h => h) (Or.inl ⟨by rfl, ?_⟩) ?_ ?_
      rotate_left
      · intro w'
        go_simp
        with_reducible rfl
      rotate_left
      · simp only [Act.put, List.setIfInBounds_toArray, List.set_cons_zero, List.set_cons_succ, i64_w, i32_w]
        rfl
      refine take_ (i := 9) (N := some 38) (v := ?_) (a' := ?_) #[true, true, true, true, false, true, true, true, true, true, false, false, false] rfl rfl (by kernel_rfl) (fun _ _ _ h => h) (Or.inl ⟨by rfl, ?_⟩) hHeld ?_ ?_
      rotate_left
      · rintro w' ⟨s0, s1, s2, s3, s4, s5⟩
        go_simp
        with_reducible rfl
      rotate_left
      · simp only [Act.put, List.setIfInBounds_toArray, List.set_cons_zero, List.set_cons_succ, i64_w, i32_w]
        rfl
      refine one_ (i := 4) (N := some 33) #[true, true, true, true, true, true, true, true, true, true, false, false, false] rfl rfl (by kernel_rfl) (by decide) (fun K hK => ?_)
      refine value_ (w1 := ?_) (v := ?_) (by rfl) rfl ?_ ?_
      rotate_left 2
      · go_simp
        constructor
        · rfl
        · rfl
      refine hK.out _ _ ⟨cell_a _ hHeld.1, cell_a _ hHeld.2.1, cell_a _ hHeld.2.2.1, cell_a _ hHeld.2.2.2.1, cell_a _ hHeld.2.2.2.2.1, cell_a _ hHeld.2.2.2.2.2⟩ (fun hHeld => ?_)
      clear hK K
      refine norm_ (a' := ?_) ?_ ?_
      rotate_left
      · show Act.put _ (some 33) _ = _
        simp only [Act.put, List.setIfInBounds_toArray, List.set_cons_zero, List.set_cons_succ, i64_w, i32_w]
        rfl
      refine one_ (i := 10) (N := some 39) #[true, true, true, true, true, true, true, true, true, true, true, false, false] rfl rfl (by kernel_rfl) (by decide) (fun K hK => ?_)
      refine step_append_row (by rfl) (.tmp 33) (.tmp 38) _ (by rfl) base 60 i0 _ 2 16 Try.underlying52 hi0 hz0 hz1 hz2 rfl (by omega) (.slice (some ⟨W.heap.size, 0, none⟩) 1 1) 1 (lcells [⟨kb, wt⟩]) (by rfl) (own_fresh (l := ⟨kb, wt⟩) (heap_alloc_new W.drew _) hbW) (by omega) va ra.length (lcells ra) (by rfl) ((HR0.out.drew.alloc _).own ka va ra HWa.out HRWa.out) (HR0.out.nil ka va ra HWa.out HRWa.out) (lcells_oneCell _) (by have := HLa.out; unfold maxLen; omega) (by have := HLa.out; omega) (by simp; omega) ?_
      intro g1 capg1 w2 hown1 hgrow1 hat1 hlt1
      have HGw2 : Hid (W.grownBy w2 va.ownBlock) := ⟨hgrow1.os, hgrow1.tape, hgrow1.output, Nat.le_trans (by simp) hgrow1.size, fun q hq _ => (hgrow1.block q (by simp; omega) (by simp [Value.ownBlock]; omega)).trans (Below.heap_alloc _ _ _ hq)⟩
      have HRw2 : Hid (Rows w2 base (vs.set ka (.slice (some ⟨g1, 0, none⟩) (1 + ra.length) capg1 : Value)) (rows.set ka ((⟨kb, wt⟩ : Link) :: ra))) := HR0.out.upd HWa.out HGw2.out (by show World.ownsRow _ _ _ _ _ (ra.length + 1) _; rw [show ra.length + 1 = 1 + ra.length from Nat.add_comm _ _]; exact hown1) (by simp) (.inr (.inr ⟨g1, rfl, by rcases hat1 with h | h <;> simp [Value.ownBlock] at h <;> omega⟩))
      have HPw2 : Hid (w2.heap[P]? = some (.cells vs.toArray 52 (0, 0))) := (HGw2.out.block P hPW NPa.out).trans HB0.out
      have HBBw2 : Hid (Below base W w2) := ((Below.refl base W).alloc (by omega) _).drew.grown hgrow1 (Nat.le_trans hbW (by simp)) (by intro q hq; simp [Value.ownBlock] at hq; omega)
      have HSFw2 : Hid (Spared W w2) := ((Spared.refl W).alloc _).drew.grown hgrow1 (fun k hk => ⟨_, (show W.heap.size = k by simpa [Value.ownBlock] using hk) ▸ heap_alloc_new _ _⟩)
      have hsw2 : W.heap.size < w2.heap.size := Nat.lt_of_lt_of_le (by simp) hgrow1.size
      have k0w2 := blk_free ka HPw2.out
      have k1w2 := port_cell HPw2.out HWa.out
      refine hK.out _ _ ⟨hgrow1.cell hHeld.1 (by simp [Value.ownBlock]; omega), hgrow1.cell hHeld.2.1 (by simp [Value.ownBlock]; omega), hgrow1.cell hHeld.2.2.1 (by simp [Value.ownBlock]; omega), hgrow1.cell hHeld.2.2.2.1 (by simp [Value.ownBlock]; omega), hgrow1.cell hHeld.2.2.2.2.1 (by simp [Value.ownBlock]; omega), hgrow1.cell hHeld.2.2.2.2.2 (by simp [Value.ownBlock]; omega)⟩ (fun hHeld => ?_)
      clear hK K
      refine norm_ (a' := ?_) ?_ ?_
      rotate_left
      · show Act.put _ (some 39) _ = _
        simp only [Act.put, List.setIfInBounds_toArray, List.set_cons_zero, List.set_cons_succ, i64_w, i32_w]
        rfl
      refine pure_ (i := 11) (N := some 40) (v := ?_) (a' := ?_) #[true, true, true, true, true, true, true, true, true, true, true, true, false] rfl rfl (by kernel_rfl) (fun _ _ _ h => h) (Or.inl ⟨by rfl, ?_⟩) ?_ ?_
      rotate_left
      · intro w'
        go_simp
        with_reducible rfl
      rotate_left
      · simp only [Act.put, List.setIfInBounds_toArray, List.set_cons_zero, List.set_cons_succ, i64_w, i32_w]
        rfl
      refine last_ (i := 12) (N := none) #[true, true, true, true, true, true, true, true, true, true, true, true, true] rfl rfl (by kernel_rfl) (by decide) (fun K hK => ?_)
      refine skip_ (w1 := ?_) (by rfl) rfl ?_ ?_
      rotate_left
      · go_simp
        rfl
      refine hK.out _ _ ?_
      clear hK K
      refine done_ (by kernel_rfl) ?_
      obtain ⟨vsA, hvsA⟩ : ∃ vsA, vs.set ka (.slice (some ⟨g1, 0, none⟩) (1 + ra.length) capg1) = vsA := ⟨_, rfl⟩
      obtain ⟨rowsA, hrowsA⟩ : ∃ rowsA, rows.set ka ((⟨kb, wt⟩ : Link) :: ra) = rowsA := ⟨_, rfl⟩
      have HVS := Lib.hid hvsA
      have HRS := Lib.hid hrowsA
      generalize hW3 : w2.setCell _ _ = W3
      have f0 : W3.cell? ⟨w.heap.size + 1, 1, none⟩ = some (.slice (some ⟨P, 0, none⟩) rows.length rows.length) := by rw [← hW3]; exact cell_far hHeld.1 (by simp; omega)
      have f1 : W3.cell? ⟨w1.heap.size, 0, none⟩ = some (.int .i64 kb) := by rw [← hW3]; exact cell_far hHeld.2.1 (by simp; omega)
      have f2 : W3.cell? ⟨w1.heap.size, 1, none⟩ = some (.int .i64 wt) := by rw [← hW3]; exact cell_far hHeld.2.2.1 (by simp; omega)
      have f3 : W3.cell? ⟨w1.heap.size + 1, 0, none⟩ = some (.int .i64 ka) := by rw [← hW3]; exact cell_far hHeld.2.2.2.1 (by simp; omega)
      have f4 : W3.cell? ⟨w1.heap.size + 1, 1, none⟩ = some (.int .i64 wt) := by rw [← hW3]; exact cell_far hHeld.2.2.2.2.1 (by simp; omega)
      have HB3 : Hid (W3.heap[P]? = some (.cells vsA.toArray 52 (0, 0))) := by unfold Hid; rw [← hW3, ← hvsA]; exact port_set HPw2.out haL
      have HR3 : Hid (Rows W3 base vsA rowsA) := by unfold Hid; rw [← hW3, ← hvsA, ← hrowsA]; exact HRw2.out.store HPw2.out
      have hz3 : W3.heap.size = w2.heap.size := by rw [← hW3]; simp [World.setCell]
      have HBB3 : Hid (Below base W W3) := by unfold Hid; rw [← hW3]; exact HBBw2.out.setCell hPb _
      have HSF3 : Hid (Spared W W3) := by unfold Hid; rw [← hW3]; exact HSFw2.out.set HPw2.out
      have HW3b : Hid (vsA[kb]? = some vb) := by unfold Hid; rw [← hvsA, List.getElem?_set_ne hne1]; exact Hb.out
      have HRW3b : Hid (rowsA[kb]? = some rb) := by unfold Hid; rw [← hrowsA, List.getElem?_set_ne hne1]; exact HRb.out
      have f5 := port_cell HB3.out HW3b.out
      have hbW3 : base ≤ W3.heap.size := by omega
      have hPW3 : P < W3.heap.size := by omega
      have hGW3 : w.heap.size + 1 < W3.heap.size := by omega
      have hLW3 : w1.heap.size < W3.heap.size := by omega
      have hMW3 : w1.heap.size + 1 < W3.heap.size := by omega
      have hbA : kb < vsA.length := by rw [← hvsA]; simpa using hbL
      clear hW3 hHeld hvsA hrowsA k0w2 k1w2 e0 e1 e2 e3 e4 e5 hz3
      go_wp2_with fail
      refine start_ (n := 13) (S := fun w' => w'.cell? ⟨w.heap.size + 1, 1, none⟩ = some (.slice (some ⟨P, 0, none⟩) rows.length rows.length) ∧ w'.cell? ⟨w1.heap.size, 0, none⟩ = some (.int .i64 kb) ∧ w'.cell? ⟨w1.heap.size, 1, none⟩ = some (.int .i64 wt) ∧ w'.cell? ⟨w1.heap.size + 1, 0, none⟩ = some (.int .i64 ka) ∧ w'.cell? ⟨w1.heap.size + 1, 1, none⟩ = some (.int .i64 wt) ∧ w'.cell? ⟨P, kb, none⟩ = some vb) (ds := [12]) #[false, false, false, false, false, false, false, false, false, false, false, false, false] (by kernel_rfl) rfl rfl ⟨f0, f1, f2, f3, f4, f5⟩ (fun hHeld => ?_)
      refine pure_ (i := 0) (N := some 41) (v := ?_) (a' := ?_) #[true, false, false, false, false, false, false, false, false, false, false, false, false] rfl rfl (by kernel_rfl) (fun _ _ _ h => h) (Or.inl ⟨by rfl, ?_⟩) ?_ ?_
      rotate_left
      · intro w'
        go_simp
        with_reducible rfl
      rotate_left
      · simp only [Act.put, List.setIfInBounds_toArray, List.set_cons_zero, List.set_cons_succ, i64_w, i32_w]
        rfl
      refine pure_ (i := 2) (N := some 43) (v := ?_) (a' := ?_) #[true, false, true, false, false, false, false, false, false, false, false, false, false] rfl rfl (by kernel_rfl) (fun _ _ _ h => h) (Or.inl ⟨by rfl, ?_⟩) ?_ ?_
      rotate_left
      · intro w'
        go_simp
        with_reducible rfl
      rotate_left
      · simp only [Act.put, List.setIfInBounds_toArray, List.set_cons_zero, List.set_cons_succ, i64_w, i32_w]
        rfl
      refine pure_ (i := 5) (N := some 46) (v := ?_) (a' := ?_) #[true, false, true, false, false, true, false, false, false, false, false, false, false] rfl rfl (by kernel_rfl) (fun _ _ _ h => h) (Or.inl ⟨by rfl, ?_⟩) ?_ ?_
      rotate_left
      · intro w'
        go_simp
        with_reducible rfl
      rotate_left
      · simp only [Act.put, List.setIfInBounds_toArray, List.set_cons_zero, List.set_cons_succ, i64_w, i32_w]
        rfl
      refine pure_ (i := 7) (N := some 48) (v := ?_) (a' := ?_) #[true, false, true, false, false, true, false, true, false, false, false, false, false] rfl rfl (by kernel_rfl) (fun _ _ _ h => h) (Or.inl ⟨by rfl, ?_⟩) ?_ ?_
      rotate_left
      · intro w'
        go_simp
        with_reducible rfl
      rotate_left
      · simp only [Act.put, List.setIfInBounds_toArray, List.set_cons_zero, List.set_cons_succ, i64_w, i32_w]
        rfl
      refine take_ (i := 1) (N := some 42) (v := ?_) (a' := ?_) #[true, true, true, false, false, true, false, true, false, false, false, false, false] rfl rfl (by kernel_rfl) (fun _ _ _ h => h) (Or.inl ⟨by rfl, ?_⟩) hHeld ?_ ?_
      rotate_left
      · rintro w' ⟨s0, s1, s2, s3, s4, s5⟩
        go_simp
        with_reducible rfl
      rotate_left
      · simp only [Act.put, List.setIfInBounds_toArray, List.set_cons_zero, List.set_cons_succ, i64_w, i32_w]
        rfl
      refine take_ (i := 3) (N := some 44) (v := ?_) (a' := ?_) #[true, true, true, true, false, true, false, true, false, false, false, false, false] rfl rfl (by kernel_rfl) (fun _ _ _ h => h) (Or.inl ⟨by rfl, ?_⟩) hHeld ?_ ?_
      rotate_left
      · rintro w' ⟨s0, s1, s2, s3, s4, s5⟩
        go_simp
        with_reducible rfl
      rotate_left
      · simp only [Act.put, List.setIfInBounds_toArray, List.set_cons_zero, List.set_cons_succ, i64_w, i32_w]
        rfl
      refine take_ (i := 6) (N := some 47) (v := ?_) (a' := ?_) #[true, true, true, true, false, true, true, true, false, false, false, false, false] rfl rfl (by kernel_rfl) (fun _ _ _ h => h) (Or.inl ⟨by rfl, ?_⟩) hHeld ?_ ?_
      rotate_left
      · rintro w' ⟨s0, s1, s2, s3, s4, s5⟩
        go_simp
        with_reducible rfl
      rotate_left
      · simp only [Act.put, List.setIfInBounds_toArray, List.set_cons_zero, List.set_cons_succ, i64_w, i32_w]
        rfl
      refine pure_ (i := 8) (N := some 49) (v := ?_) (a' := ?_) #[true, true, true, true, false, true, true, true, true, false, false, false, false] rfl rfl (by kernel_rfl) (fun _ _ _ h => h) (Or.inl ⟨by rfl, ?_⟩) ?_ ?_
      rotate_left
      · intro w'
        go_simp
        with_reducible rfl
      rotate_left
      · simp only [Act.put, List.setIfInBounds_toArray, List.set_cons_zero, List.set_cons_succ, i64_w, i32_w]
        rfl
      refine take_ (i := 9) (N := some 50) (v := ?_) (a' := ?_) #[true, true, true, true, false, true, true, true, true, true, false, false, false] rfl rfl (by kernel_rfl) (fun _ _ _ h => h) (Or.inl ⟨by rfl, ?_⟩) hHeld ?_ ?_
      rotate_left
      · rintro w' ⟨s0, s1, s2, s3, s4, s5⟩
        go_simp
        with_reducible rfl
      rotate_left
      · simp only [Act.put, List.setIfInBounds_toArray, List.set_cons_zero, List.set_cons_succ, i64_w, i32_w]
        rfl
      refine one_ (i := 4) (N := some 45) #[true, true, true, true, true, true, true, true, true, true, false, false, false] rfl rfl (by kernel_rfl) (by decide) (fun K hK => ?_)
      refine value_ (w1 := ?_) (v := ?_) (by rfl) rfl ?_ ?_
      rotate_left 2
      · go_simp
        constructor
        · rfl
        · rfl
      refine hK.out _ _ ⟨cell_a _ hHeld.1, cell_a _ hHeld.2.1, cell_a _ hHeld.2.2.1, cell_a _ hHeld.2.2.2.1, cell_a _ hHeld.2.2.2.2.1, cell_a _ hHeld.2.2.2.2.2⟩ (fun hHeld => ?_)
      clear hK K
      refine norm_ (a' := ?_) ?_ ?_
      rotate_left
      · show Act.put _ (some 45) _ = _
        simp only [Act.put, List.setIfInBounds_toArray, List.set_cons_zero, List.set_cons_succ, i64_w, i32_w]
        rfl
      refine one_ (i := 10) (N := some 51) #[true, true, true, true, true, true, true, true, true, true, true, false, false] rfl rfl (by kernel_rfl) (by decide) (fun K hK => ?_)
      refine step_append_row (by rfl) (.tmp 45) (.tmp 50) _ (by rfl) base 60 i0 _ 2 16 Try.underlying52 hi0 hz0 hz1 hz2 rfl (by omega) (.slice (some ⟨W3.heap.size, 0, none⟩) 1 1) 1 (lcells [⟨ka, wt⟩]) (by rfl) (own_fresh (l := ⟨ka, wt⟩) (heap_alloc_new W3.drew _) hbW3) (by omega) vb rb.length (lcells rb) (by rfl) ((HR3.out.drew.alloc _).own kb vb rb HW3b.out HRW3b.out) (HR3.out.nil kb vb rb HW3b.out HRW3b.out) (lcells_oneCell _) (by have := HLb.out; unfold maxLen; omega) (by have := HLb.out; omega) (by simp; omega) ?_
      intro g2 capg2 w4 hown1 hgrow1 hat1 hlt1
      have HGw4 : Hid (W3.grownBy w4 vb.ownBlock) := ⟨hgrow1.os, hgrow1.tape, hgrow1.output, Nat.le_trans (by simp) hgrow1.size, fun q hq _ => (hgrow1.block q (by simp; omega) (by simp [Value.ownBlock]; omega)).trans (Below.heap_alloc _ _ _ hq)⟩
      have HRw4 : Hid (Rows w4 base (vsA.set kb (.slice (some ⟨g2, 0, none⟩) (1 + rb.length) capg2 : Value)) (rowsA.set kb ((⟨ka, wt⟩ : Link) :: rb))) := HR3.out.upd HW3b.out HGw4.out (by show World.ownsRow _ _ _ _ _ (rb.length + 1) _; rw [show rb.length + 1 = 1 + rb.length from Nat.add_comm _ _]; exact hown1) (by simp) (.inr (.inr ⟨g2, rfl, by rcases hat1 with h | h <;> simp [Value.ownBlock] at h <;> omega⟩))
      have HPw4 : Hid (w4.heap[P]? = some (.cells vsA.toArray 52 (0, 0))) := (HGw4.out.block P hPW3 NPb.out).trans HB3.out
      have HBBw4 : Hid (Below base W3 w4) := ((Below.refl base W3).alloc (by omega) _).drew.grown hgrow1 (Nat.le_trans hbW3 (by simp)) (by intro q hq; simp [Value.ownBlock] at hq; omega)
      have HSFw4 : Hid (Spared W3 w4) := ((Spared.refl W3).alloc _).drew.grown hgrow1 (fun k hk => ⟨_, (show W3.heap.size = k by simpa [Value.ownBlock] using hk) ▸ heap_alloc_new _ _⟩)
      have hsw4 : W3.heap.size < w4.heap.size := Nat.lt_of_lt_of_le (by simp) hgrow1.size
      have k0w4 := blk_free kb HPw4.out
      have k1w4 := port_cell HPw4.out HW3b.out
      refine hK.out _ _ ⟨hgrow1.cell hHeld.1 (by simp [Value.ownBlock]; omega), hgrow1.cell hHeld.2.1 (by simp [Value.ownBlock]; omega), hgrow1.cell hHeld.2.2.1 (by simp [Value.ownBlock]; omega), hgrow1.cell hHeld.2.2.2.1 (by simp [Value.ownBlock]; omega), hgrow1.cell hHeld.2.2.2.2.1 (by simp [Value.ownBlock]; omega), hgrow1.cell hHeld.2.2.2.2.2 (by simp [Value.ownBlock]; omega)⟩ (fun hHeld => ?_)
      clear hK K
      refine norm_ (a' := ?_) ?_ ?_
      rotate_left
      · show Act.put _ (some 51) _ = _
        simp only [Act.put, List.setIfInBounds_toArray, List.set_cons_zero, List.set_cons_succ, i64_w, i32_w]
        rfl
      refine pure_ (i := 11) (N := some 52) (v := ?_) (a' := ?_) #[true, true, true, true, true, true, true, true, true, true, true, true, false] rfl rfl (by kernel_rfl) (fun _ _ _ h => h) (Or.inl ⟨by rfl, ?_⟩) ?_ ?_
      rotate_left
      · intro w'
        go_simp
        with_reducible rfl
      rotate_left
      · simp only [Act.put, List.setIfInBounds_toArray, List.set_cons_zero, List.set_cons_succ, i64_w, i32_w]
        rfl
      refine last_ (i := 12) (N := none) #[true, true, true, true, true, true, true, true, true, true, true, true, true] rfl rfl (by kernel_rfl) (by decide) (fun K hK => ?_)
      refine skip_ (w1 := ?_) (by rfl) rfl ?_ ?_
      rotate_left
      · go_simp
        rfl
      refine hK.out _ _ ?_
      clear hK K
      refine done_ (by kernel_rfl) ?_
      go_wp2_with fail
      refine bodyPost_ret (v := .tuple #[]) (by simp [results, Try.results115, go_sem]) rfl ?_
      refine ⟨rfl, ⟨_, ⟨port_set HPw4.out hbA, ?_, hPb⟩⟩, (HBW.out.trans HBB3.out).trans (HBBw4.out.setCell hPb _), (HSFW.out.trans HSF3.out).trans (HSFw4.out.set HPw4.out)⟩
      rw [hE.out, HGa.out, HGb.out]
      show Rows _ base _ ((rows.set ka ((⟨kb, wt⟩ : Link) :: ra)).set kb ((⟨ka, wt⟩ : Link) :: rb))
      rw [HRS.out]
      exact HRw4.out.store HPw4.out
    | false =>
      go_enter Try.func115, Try.ntmps115
      go_wp2_with fail
      refine (linked_calls _ _ _ _ _ HR0.out ka ha kb).mono ?_
      rintro e w1 ⟨rfl, hb1⟩
      rw [HLK.out]
      have hzq := hb1.size
      simp only [World.size_alloc] at hzq
      have hcG := cell_b hb1 (cell_at_new (w := w.alloc (.cells #[.int .i64 N, vL, vW, vI, .bool ap, .bool false] 24)) (cs := #[v0, .slice (some ⟨P, 0, none⟩) rows.length rows.length]) (t := 27) (k := w.heap.size + 1) (j := 1) (by simp) rfl)
      have hcX := cell_b hb1 (cell_a (.cells #[v0, .slice (some ⟨P, 0, none⟩) rows.length rows.length] 27) (cell_at_new (w := w) (cs := #[.int .i64 N, vL, vW, vI, .bool ap, .bool false]) (t := 24) (k := w.heap.size) (j := 5) rfl rfl))
      have hPA := ((HP.out.alloc (.cells #[.int .i64 N, vL, vW, vI, .bool ap, .bool false] 24)).alloc (.cells #[v0, .slice (some ⟨P, 0, none⟩) rows.length rows.length] 27)).below hb1
      have HPA := Lib.hid hPA
      have HSF1 := Lib.hid ((((Spared.refl w).alloc (.cells #[.int .i64 N, vL, vW, vI, .bool ap, .bool false] 24)).alloc (.cells #[v0, .slice (some ⟨P, 0, none⟩) rows.length rows.length] 27)).below hb1)
      have HB1 := Lib.hid ((((Below.refl base w).alloc hbase _).alloc (by simp; omega) _).trans (hb1.mono (by simp; omega)))
      clear hb1 hPA HR0 HR HP HB0
      have hxw : w.heap.size < w1.heap.size := by omega
      go_wp2_with fail
      generalize hW : (w1.alloc _).alloc _ = W
      have cG : W.cell? ⟨w.heap.size + 1, 1, none⟩ = some (.slice (some ⟨P, 0, none⟩) rows.length rows.length) := by rw [← hW]; exact cell_a _ (cell_a _ hcG)
      have cL0 : W.cell? ⟨w1.heap.size, 0, none⟩ = some (.int .i64 kb) := by rw [← hW]; exact cell_a _ (cell_at_new rfl rfl)
      have cL1 : W.cell? ⟨w1.heap.size, 1, none⟩ = some (.int .i64 wt) := by rw [← hW]; exact cell_a _ (cell_at_new rfl rfl)
      have cM0 : W.cell? ⟨w1.heap.size + 1, 0, none⟩ = some (.int .i64 ka) := by rw [← hW]; exact cell_at_new (by simp) rfl
      have cM1 : W.cell? ⟨w1.heap.size + 1, 1, none⟩ = some (.int .i64 wt) := by rw [← hW]; exact cell_at_new (by simp) rfl
      have hPW0 : PortsAt W base P vs rows := by rw [← hW]; exact (HPA.out.alloc _).alloc _
      have blk0 := hPW0.blk
      have R0 := hPW0.rows.drew
      have hWz : W.heap.size = w1.heap.size + 2 := by rw [← hW]; simp
      have HBW : Hid (Below base w W) := by unfold Hid; rw [← hW]; exact (HB1.out.alloc (by omega) _).alloc (by simp; omega) _
      have HSFW : Hid (Spared w W) := by unfold Hid; rw [← hW]; exact (HSF1.out.alloc _).alloc _
      have hbW : base ≤ W.heap.size := by omega
      have hPW : P < W.heap.size := by omega
      have hPG : P ≠ w.heap.size + 1 := by omega
      have hPL : P ≠ w1.heap.size := by omega
      have hPM : P ≠ w1.heap.size + 1 := by omega
      have La : Hid (∀ k, va.ownBlock = some k → k < W.heap.size) := fun k hk => by have := Lta.out k hk; omega
      have Lb : Hid (∀ k, vb.ownBlock = some k → k < W.heap.size) := fun k hk => by have := Ltb.out k hk; omega
      have NGa : Hid (some (w.heap.size + 1) ≠ va.ownBlock) := fun e => by have := Lta.out _ e.symm; omega
      have NGb : Hid (some (w.heap.size + 1) ≠ vb.ownBlock) := fun e => by have := Ltb.out _ e.symm; omega
      have NLa : Hid (some w1.heap.size ≠ va.ownBlock) := fun e => by have := Lta.out _ e.symm; omega
      have NLb : Hid (some w1.heap.size ≠ vb.ownBlock) := fun e => by have := Ltb.out _ e.symm; omega
      have NMa : Hid (some (w1.heap.size + 1) ≠ va.ownBlock) := fun e => by have := Lta.out _ e.symm; omega
      have NMb : Hid (some (w1.heap.size + 1) ≠ vb.ownBlock) := fun e => by have := Ltb.out _ e.symm; omega
      have bel : Below base W W.drew := (Below.refl _ _).drew
      have siz : W.heap.size ≤ W.drew.heap.size := Nat.le_refl _
      have saf : Spared W W.drew := Spared.refl W
      clear hW hPW0 hcG hcX
      have HWZ := Lib.hid hWz
      clear hWz
      refine start_ (n := 26) (S := fun w' => True) (ds := []) #[false, false, false, false, false, false, false, false, false, false, false, false, false, false, false, false, false, false, false, false, false, false, false, false, false, false] (by kernel_rfl) rfl rfl trivial (fun hHeld => ?_)
      refine with_tabW link.tab6 link.bits6 (fun HT_ HW_ => ?_)
      refine inv_at [0, 1, 2, 3, 4, 5, 6, 7, 8, 9, 10, 11, 12, 13, 14, 15, 16, 17, 18, 19, 20, 21, 22, 23, 24, 25] (fun a0_ b a w' => ∃ (K1 : Nat) (K2 : Nat) (g1 : Nat) (cap1 : Nat) (g2 : Nat) (cap2 : Nat) (m12_ : Value) (m13_ : Value) (m20_ : Value) (m21_ : Value), a = putSel a0_ b [(0, 53, (.pointer (some ⟨w.heap.size + 1, 1, none⟩))), (1, 54, (.slice (some ⟨P, 0, none⟩) rows.length rows.length)), (2, 55, (.int .i64 ka)), (3, 56, (.pointer (some ⟨w.heap.size + 1, 1, none⟩))), (4, 57, (.slice (some ⟨P, 0, none⟩) rows.length rows.length)), (5, 58, (.int .i64 kb)), (6, 59, (.pointer (some ⟨w.heap.size + 1, 1, none⟩))), (7, 60, (.slice (some ⟨P, 0, none⟩) rows.length rows.length)), (8, 61, (.int .i64 ka)), (9, 62, (.pointer (some ⟨P, ka, none⟩))), (10, 63, va), (11, 64, (.agg #[(.int .i64 kb), (.int .i64 wt)])), (12, 65, m12_), (13, 66, m13_), (14, 67, (.pointer (some ⟨w.heap.size + 1, 1, none⟩))), (15, 68, (.slice (some ⟨P, 0, none⟩) rows.length rows.length)), (16, 69, (.int .i64 kb)), (17, 70, (.pointer (some ⟨P, kb, none⟩))), (18, 71, vb), (19, 72, (.agg #[(.int .i64 ka), (.int .i64 wt)])), (20, 73, m20_), (21, 74, m21_), (22, 75, (.pointer (some ⟨P, ka, none⟩))), (24, 76, (.pointer (some ⟨P, kb, none⟩)))] ∧ (w'.cell? ⟨w.heap.size + 1, 1, none⟩ = some (.slice (some ⟨P, 0, none⟩) rows.length rows.length)) ∧ (w'.cell? ⟨w1.heap.size, 0, none⟩ = some (.int .i64 kb)) ∧ (w'.cell? ⟨w1.heap.size, 1, none⟩ = some (.int .i64 wt)) ∧ (w'.cell? ⟨w1.heap.size + 1, 0, none⟩ = some (.int .i64 ka)) ∧ (w'.cell? ⟨w1.heap.size + 1, 1, none⟩ = some (.int .i64 wt)) ∧ (b 23 = false → w'.heap[P]? = some (.cells vs.toArray 52 (0, 0))) ∧ (b 23 = true → b 25 = false → w'.heap[P]? = some (.cells (vs.set ka (.slice (some ⟨g1, 0, none⟩) (ra.length + 1) cap1 : Value)).toArray 52 (0, 0))) ∧ (b 25 = true → w'.heap[P]? = some (.cells ((vs.set ka (.slice (some ⟨g1, 0, none⟩) (ra.length + 1) cap1 : Value)).set kb (.slice (some ⟨g2, 0, none⟩) (rb.length + 1) cap2 : Value)).toArray 52 (0, 0))) ∧ (b 13 = false → Rows w' base vs rows) ∧ (b 13 = true → b 21 = false → Rows w' base (vs.set ka (.slice (some ⟨g1, 0, none⟩) (ra.length + 1) cap1 : Value)) (rows.set ka (ra ++ [(⟨kb, wt⟩ : Link)]))) ∧ (b 21 = true → Rows w' base ((vs.set ka (.slice (some ⟨g1, 0, none⟩) (ra.length + 1) cap1 : Value)).set kb (.slice (some ⟨g2, 0, none⟩) (rb.length + 1) cap2 : Value)) ((rows.set ka (ra ++ [(⟨kb, wt⟩ : Link)])).set kb (rb ++ [(⟨ka, wt⟩ : Link)]))) ∧ (b 12 = true → b 13 = false → (W.heap.size ≤ K1 ∧ w'.heap[K1]? = some (.cells #[(.int .i64 kb), (.int .i64 wt)] 60 (0, 0)))) ∧ (b 20 = true → b 21 = false → (W.heap.size ≤ K2 ∧ w'.heap[K2]? = some (.cells #[(.int .i64 ka), (.int .i64 wt)] 60 (0, 0)))) ∧ (Below base W w') ∧ (W.heap.size ≤ w'.heap.size) ∧ (Spared W w') ∧ (b 12 = true → (m12_ : Value) = (.slice (some ⟨K1, 0, none⟩) 1 1 : Value)) ∧ (b 13 = true → (m13_ : Value) = (.slice (some ⟨g1, 0, none⟩) (ra.length + 1) cap1 : Value)) ∧ (b 20 = true → (m20_ : Value) = (.slice (some ⟨K2, 0, none⟩) 1 1 : Value)) ∧ (b 21 = true → (m21_ : Value) = (.slice (some ⟨g2, 0, none⟩) (rb.length + 1) cap2 : Value))) HT_.out HW_.out (by kernel_rfl) (by kernel_rfl) ?_ ?_ ?_
      · exact ⟨0, 0, 0, 0, 0, 0, .bool false, .bool false, .bool false, .bool false, by simp only [putSel, Bool.false_eq_true, if_false], cG, cL0, cL1, cM0, cM1, fun _ => blk0, fun h_ => absurd h_ (by decide), fun h_ => absurd h_ (by decide), fun _ => R0, fun h_ => absurd h_ (by decide), fun h_ => absurd h_ (by decide), fun h_ => absurd h_ (by decide), fun h_ => absurd h_ (by decide), bel, siz, saf, fun h_ => absurd h_ (by decide), fun h_ => absurd h_ (by decide), fun h_ => absurd h_ (by decide), fun h_ => absurd h_ (by decide)⟩
      · skip
        clear R0 bel blk0 cG cL0 cL1 cM0 cM1 saf siz
        refine steps_cons ?_ ?_
        · rintro b a w' ⟨K1, K2, g1, cap1, g2, cap2, m12_, m13_, m20_, m21_, ha, Q_cG, Q_cL0, Q_cL1, Q_cM0, Q_cM1, Q_blk0, Q_blk1, Q_blk2, Q_R0, Q_R1, Q_R2, Q_hK1, Q_hK2, Q_bel, Q_siz, Q_saf, Q_X12_, Q_X13_, Q_X20_, Q_X21_⟩ hb_ hon hoff
          refine ⟨_, rfl, fun K hK => ?_⟩
          have e6 : a.tmps[6]? = some ((.pointer (some ⟨w.heap.size + 1, 0, none⟩))) := by rw [ha]; exact (putSel_off rfl).trans rfl
          replace ha := Aside0.mk ha
          have cG := Aside0.mk Q_cG
          have cL0 := Aside0.mk Q_cL0
          have cL1 := Aside0.mk Q_cL1
          have cM0 := Aside0.mk Q_cM0
          have cM1 := Aside0.mk Q_cM1
          have blk0 := Aside0.mk (Q_blk0 (hoff 23 (by kernel_rfl)))
          have bel := Aside0.mk Q_bel
          have siz := Aside0.mk Q_siz
          have saf := Aside0.mk Q_saf
          refine value_ (w1 := w') (v := (.pointer (some ⟨w.heap.size + 1, 1, none⟩))) (by rfl) rfl ?_ ?_
          · go_simp
            (try simp only [i64_w])
            try rfl
          refine hK.out _ _ ⟨K1, K2, g1, cap1, g2, cap2, m12_, m13_, m20_, m21_, (by rw [ha.out]; exact putSel_upk 0 hb_ rfl rfl rfl), Q_cG, Q_cL0, Q_cL1, Q_cM0, Q_cM1, Q_blk0, fun h0_ _ => absurd ((hoff 23 (by kernel_rfl)).symm.trans h0_) (by decide), fun h0_ => absurd ((hoff 25 (by kernel_rfl)).symm.trans h0_) (by decide), Q_R0, Q_R1, Q_R2, Q_hK1, Q_hK2, Q_bel, Q_siz, Q_saf, Q_X12_, Q_X13_, Q_X20_, Q_X21_⟩
        refine steps_cons ?_ ?_
        · rintro b a w' ⟨K1, K2, g1, cap1, g2, cap2, m12_, m13_, m20_, m21_, ha, Q_cG, Q_cL0, Q_cL1, Q_cM0, Q_cM1, Q_blk0, Q_blk1, Q_blk2, Q_R0, Q_R1, Q_R2, Q_hK1, Q_hK2, Q_bel, Q_siz, Q_saf, Q_X12_, Q_X13_, Q_X20_, Q_X21_⟩ hb_ hon hoff
          refine ⟨_, rfl, fun K hK => ?_⟩
          have e53 : a.tmps[53]? = some ((.pointer (some ⟨w.heap.size + 1, 1, none⟩))) := by rw [ha]; exact putSel_on (e := (0, 53, (.pointer (some ⟨w.heap.size + 1, 1, none⟩)))) 0 rfl rfl (hon 0 (by kernel_rfl)) rfl
          replace ha := Aside0.mk ha
          have cG := Aside0.mk Q_cG
          have cL0 := Aside0.mk Q_cL0
          have cL1 := Aside0.mk Q_cL1
          have cM0 := Aside0.mk Q_cM0
          have cM1 := Aside0.mk Q_cM1
          have blk0 := Aside0.mk (Q_blk0 (hoff 23 (by kernel_rfl)))
          have bel := Aside0.mk Q_bel
          have siz := Aside0.mk Q_siz
          have saf := Aside0.mk Q_saf
          have q0 := cG.out
          refine value_ (w1 := w') (v := (.slice (some ⟨P, 0, none⟩) rows.length rows.length)) (by rfl) rfl ?_ ?_
          · go_simp
            (try simp only [i64_w])
            try rfl
          refine hK.out _ _ ⟨K1, K2, g1, cap1, g2, cap2, m12_, m13_, m20_, m21_, (by rw [ha.out]; exact putSel_upk 1 hb_ rfl rfl rfl), Q_cG, Q_cL0, Q_cL1, Q_cM0, Q_cM1, Q_blk0, fun h0_ _ => absurd ((hoff 23 (by kernel_rfl)).symm.trans h0_) (by decide), fun h0_ => absurd ((hoff 25 (by kernel_rfl)).symm.trans h0_) (by decide), Q_R0, Q_R1, Q_R2, Q_hK1, Q_hK2, Q_bel, Q_siz, Q_saf, Q_X12_, Q_X13_, Q_X20_, Q_X21_⟩
        refine steps_cons ?_ ?_
        · rintro b a w' ⟨K1, K2, g1, cap1, g2, cap2, m12_, m13_, m20_, m21_, ha, Q_cG, Q_cL0, Q_cL1, Q_cM0, Q_cM1, Q_blk0, Q_blk1, Q_blk2, Q_R0, Q_R1, Q_R2, Q_hK1, Q_hK2, Q_bel, Q_siz, Q_saf, Q_X12_, Q_X13_, Q_X20_, Q_X21_⟩ hb_ hon hoff
          refine ⟨_, rfl, fun K hK => ?_⟩
          have e2 : a.tmps[2]? = some ((.int .i64 ka)) := by rw [ha]; exact (putSel_off rfl).trans rfl
          replace ha := Aside0.mk ha
          have cG := Aside0.mk Q_cG
          have cL0 := Aside0.mk Q_cL0
          have cL1 := Aside0.mk Q_cL1
          have cM0 := Aside0.mk Q_cM0
          have cM1 := Aside0.mk Q_cM1
          have blk0 := Aside0.mk (Q_blk0 (hoff 23 (by kernel_rfl)))
          have bel := Aside0.mk Q_bel
          have siz := Aside0.mk Q_siz
          have saf := Aside0.mk Q_saf
          refine value_ (w1 := w') (v := (.int .i64 ka)) (by rfl) rfl ?_ ?_
          · go_simp
            (try simp only [i64_w])
            try rfl
          refine hK.out _ _ ⟨K1, K2, g1, cap1, g2, cap2, m12_, m13_, m20_, m21_, (by rw [ha.out]; exact putSel_upk 2 hb_ rfl rfl rfl), Q_cG, Q_cL0, Q_cL1, Q_cM0, Q_cM1, Q_blk0, fun h0_ _ => absurd ((hoff 23 (by kernel_rfl)).symm.trans h0_) (by decide), fun h0_ => absurd ((hoff 25 (by kernel_rfl)).symm.trans h0_) (by decide), Q_R0, Q_R1, Q_R2, Q_hK1, Q_hK2, Q_bel, Q_siz, Q_saf, Q_X12_, Q_X13_, Q_X20_, Q_X21_⟩
        refine steps_cons ?_ ?_
        · rintro b a w' ⟨K1, K2, g1, cap1, g2, cap2, m12_, m13_, m20_, m21_, ha, Q_cG, Q_cL0, Q_cL1, Q_cM0, Q_cM1, Q_blk0, Q_blk1, Q_blk2, Q_R0, Q_R1, Q_R2, Q_hK1, Q_hK2, Q_bel, Q_siz, Q_saf, Q_X12_, Q_X13_, Q_X20_, Q_X21_⟩ hb_ hon hoff
          refine ⟨_, rfl, fun K hK => ?_⟩
          have e6 : a.tmps[6]? = some ((.pointer (some ⟨w.heap.size + 1, 0, none⟩))) := by rw [ha]; exact (putSel_off rfl).trans rfl
          replace ha := Aside0.mk ha
          have cG := Aside0.mk Q_cG
          have cL0 := Aside0.mk Q_cL0
          have cL1 := Aside0.mk Q_cL1
          have cM0 := Aside0.mk Q_cM0
          have cM1 := Aside0.mk Q_cM1
          have bel := Aside0.mk Q_bel
          have siz := Aside0.mk Q_siz
          have saf := Aside0.mk Q_saf
          refine value_ (w1 := w') (v := (.pointer (some ⟨w.heap.size + 1, 1, none⟩))) (by rfl) rfl ?_ ?_
          · go_simp
            (try simp only [i64_w])
            try rfl
          refine hK.out _ _ ⟨K1, K2, g1, cap1, g2, cap2, m12_, m13_, m20_, m21_, (by rw [ha.out]; exact putSel_upk 3 hb_ rfl rfl rfl), Q_cG, Q_cL0, Q_cL1, Q_cM0, Q_cM1, Q_blk0, Q_blk1, fun h0_ => absurd ((hoff 25 (by kernel_rfl)).symm.trans h0_) (by decide), Q_R0, Q_R1, Q_R2, Q_hK1, Q_hK2, Q_bel, Q_siz, Q_saf, Q_X12_, Q_X13_, Q_X20_, Q_X21_⟩
        refine steps_cons ?_ ?_
        · rintro b a w' ⟨K1, K2, g1, cap1, g2, cap2, m12_, m13_, m20_, m21_, ha, Q_cG, Q_cL0, Q_cL1, Q_cM0, Q_cM1, Q_blk0, Q_blk1, Q_blk2, Q_R0, Q_R1, Q_R2, Q_hK1, Q_hK2, Q_bel, Q_siz, Q_saf, Q_X12_, Q_X13_, Q_X20_, Q_X21_⟩ hb_ hon hoff
          refine ⟨_, rfl, fun K hK => ?_⟩
          have e56 : a.tmps[56]? = some ((.pointer (some ⟨w.heap.size + 1, 1, none⟩))) := by rw [ha]; exact putSel_on (e := (3, 56, (.pointer (some ⟨w.heap.size + 1, 1, none⟩)))) 3 rfl rfl (hon 3 (by kernel_rfl)) rfl
          replace ha := Aside0.mk ha
          have cG := Aside0.mk Q_cG
          have cL0 := Aside0.mk Q_cL0
          have cL1 := Aside0.mk Q_cL1
          have cM0 := Aside0.mk Q_cM0
          have cM1 := Aside0.mk Q_cM1
          have bel := Aside0.mk Q_bel
          have siz := Aside0.mk Q_siz
          have saf := Aside0.mk Q_saf
          have q0 := cG.out
          refine value_ (w1 := w') (v := (.slice (some ⟨P, 0, none⟩) rows.length rows.length)) (by rfl) rfl ?_ ?_
          · go_simp
            (try simp only [i64_w])
            try rfl
          refine hK.out _ _ ⟨K1, K2, g1, cap1, g2, cap2, m12_, m13_, m20_, m21_, (by rw [ha.out]; exact putSel_upk 4 hb_ rfl rfl rfl), Q_cG, Q_cL0, Q_cL1, Q_cM0, Q_cM1, Q_blk0, Q_blk1, fun h0_ => absurd ((hoff 25 (by kernel_rfl)).symm.trans h0_) (by decide), Q_R0, Q_R1, Q_R2, Q_hK1, Q_hK2, Q_bel, Q_siz, Q_saf, Q_X12_, Q_X13_, Q_X20_, Q_X21_⟩
        refine steps_cons ?_ ?_
        · rintro b a w' ⟨K1, K2, g1, cap1, g2, cap2, m12_, m13_, m20_, m21_, ha, Q_cG, Q_cL0, Q_cL1, Q_cM0, Q_cM1, Q_blk0, Q_blk1, Q_blk2, Q_R0, Q_R1, Q_R2, Q_hK1, Q_hK2, Q_bel, Q_siz, Q_saf, Q_X12_, Q_X13_, Q_X20_, Q_X21_⟩ hb_ hon hoff
          refine ⟨_, rfl, fun K hK => ?_⟩
          have e3 : a.tmps[3]? = some ((.int .i64 kb)) := by rw [ha]; exact (putSel_off rfl).trans rfl
          replace ha := Aside0.mk ha
          have cG := Aside0.mk Q_cG
          have cL0 := Aside0.mk Q_cL0
          have cL1 := Aside0.mk Q_cL1
          have cM0 := Aside0.mk Q_cM0
          have cM1 := Aside0.mk Q_cM1
          have bel := Aside0.mk Q_bel
          have siz := Aside0.mk Q_siz
          have saf := Aside0.mk Q_saf
          refine value_ (w1 := w') (v := (.int .i64 kb)) (by rfl) rfl ?_ ?_
          · go_simp
            (try simp only [i64_w])
            try rfl
          refine hK.out _ _ ⟨K1, K2, g1, cap1, g2, cap2, m12_, m13_, m20_, m21_, (by rw [ha.out]; exact putSel_upk 5 hb_ rfl rfl rfl), Q_cG, Q_cL0, Q_cL1, Q_cM0, Q_cM1, Q_blk0, Q_blk1, fun h0_ => absurd ((hoff 25 (by kernel_rfl)).symm.trans h0_) (by decide), Q_R0, Q_R1, Q_R2, Q_hK1, Q_hK2, Q_bel, Q_siz, Q_saf, Q_X12_, Q_X13_, Q_X20_, Q_X21_⟩
        refine steps_cons ?_ ?_
        · rintro b a w' ⟨K1, K2, g1, cap1, g2, cap2, m12_, m13_, m20_, m21_, ha, Q_cG, Q_cL0, Q_cL1, Q_cM0, Q_cM1, Q_blk0, Q_blk1, Q_blk2, Q_R0, Q_R1, Q_R2, Q_hK1, Q_hK2, Q_bel, Q_siz, Q_saf, Q_X12_, Q_X13_, Q_X20_, Q_X21_⟩ hb_ hon hoff
          refine ⟨_, rfl, fun K hK => ?_⟩
          have e6 : a.tmps[6]? = some ((.pointer (some ⟨w.heap.size + 1, 0, none⟩))) := by rw [ha]; exact (putSel_off rfl).trans rfl
          replace ha := Aside0.mk ha
          have cG := Aside0.mk Q_cG
          have cL0 := Aside0.mk Q_cL0
          have cL1 := Aside0.mk Q_cL1
          have cM0 := Aside0.mk Q_cM0
          have cM1 := Aside0.mk Q_cM1
          have blk0 := Aside0.mk (Q_blk0 (hoff 23 (by kernel_rfl)))
          have R0 := Aside0.mk (Q_R0 (hoff 13 (by kernel_rfl)))
          have bel := Aside0.mk Q_bel
          have siz := Aside0.mk Q_siz
          have saf := Aside0.mk Q_saf
          refine value_ (w1 := w') (v := (.pointer (some ⟨w.heap.size + 1, 1, none⟩))) (by rfl) rfl ?_ ?_
          · go_simp
            (try simp only [i64_w])
            try rfl
          refine hK.out _ _ ⟨K1, K2, g1, cap1, g2, cap2, m12_, m13_, m20_, m21_, (by rw [ha.out]; exact putSel_upk 6 hb_ rfl rfl rfl), Q_cG, Q_cL0, Q_cL1, Q_cM0, Q_cM1, Q_blk0, fun h0_ _ => absurd ((hoff 23 (by kernel_rfl)).symm.trans h0_) (by decide), fun h0_ => absurd ((hoff 25 (by kernel_rfl)).symm.trans h0_) (by decide), Q_R0, fun h0_ _ => absurd ((hoff 13 (by kernel_rfl)).symm.trans h0_) (by decide), fun h0_ => absurd ((hoff 21 (by kernel_rfl)).symm.trans h0_) (by decide), Q_hK1, Q_hK2, Q_bel, Q_siz, Q_saf, Q_X12_, fun h0_ => absurd ((hoff 13 (by kernel_rfl)).symm.trans h0_) (by decide), Q_X20_, fun h0_ => absurd ((hoff 21 (by kernel_rfl)).symm.trans h0_) (by decide)⟩
        refine steps_cons ?_ ?_
        · rintro b a w' ⟨K1, K2, g1, cap1, g2, cap2, m12_, m13_, m20_, m21_, ha, Q_cG, Q_cL0, Q_cL1, Q_cM0, Q_cM1, Q_blk0, Q_blk1, Q_blk2, Q_R0, Q_R1, Q_R2, Q_hK1, Q_hK2, Q_bel, Q_siz, Q_saf, Q_X12_, Q_X13_, Q_X20_, Q_X21_⟩ hb_ hon hoff
          refine ⟨_, rfl, fun K hK => ?_⟩
          have e59 : a.tmps[59]? = some ((.pointer (some ⟨w.heap.size + 1, 1, none⟩))) := by rw [ha]; exact putSel_on (e := (6, 59, (.pointer (some ⟨w.heap.size + 1, 1, none⟩)))) 6 rfl rfl (hon 6 (by kernel_rfl)) rfl
          replace ha := Aside0.mk ha
          have cG := Aside0.mk Q_cG
          have cL0 := Aside0.mk Q_cL0
          have cL1 := Aside0.mk Q_cL1
          have cM0 := Aside0.mk Q_cM0
          have cM1 := Aside0.mk Q_cM1
          have blk0 := Aside0.mk (Q_blk0 (hoff 23 (by kernel_rfl)))
          have R0 := Aside0.mk (Q_R0 (hoff 13 (by kernel_rfl)))
          have bel := Aside0.mk Q_bel
          have siz := Aside0.mk Q_siz
          have saf := Aside0.mk Q_saf
          have q0 := cG.out
          refine value_ (w1 := w') (v := (.slice (some ⟨P, 0, none⟩) rows.length rows.length)) (by rfl) rfl ?_ ?_
          · go_simp
            (try simp only [i64_w])
            try rfl
          refine hK.out _ _ ⟨K1, K2, g1, cap1, g2, cap2, m12_, m13_, m20_, m21_, (by rw [ha.out]; exact putSel_upk 7 hb_ rfl rfl rfl), Q_cG, Q_cL0, Q_cL1, Q_cM0, Q_cM1, Q_blk0, fun h0_ _ => absurd ((hoff 23 (by kernel_rfl)).symm.trans h0_) (by decide), fun h0_ => absurd ((hoff 25 (by kernel_rfl)).symm.trans h0_) (by decide), Q_R0, fun h0_ _ => absurd ((hoff 13 (by kernel_rfl)).symm.trans h0_) (by decide), fun h0_ => absurd ((hoff 21 (by kernel_rfl)).symm.trans h0_) (by decide), Q_hK1, Q_hK2, Q_bel, Q_siz, Q_saf, Q_X12_, fun h0_ => absurd ((hoff 13 (by kernel_rfl)).symm.trans h0_) (by decide), Q_X20_, fun h0_ => absurd ((hoff 21 (by kernel_rfl)).symm.trans h0_) (by decide)⟩
        refine steps_cons ?_ ?_
        · rintro b a w' ⟨K1, K2, g1, cap1, g2, cap2, m12_, m13_, m20_, m21_, ha, Q_cG, Q_cL0, Q_cL1, Q_cM0, Q_cM1, Q_blk0, Q_blk1, Q_blk2, Q_R0, Q_R1, Q_R2, Q_hK1, Q_hK2, Q_bel, Q_siz, Q_saf, Q_X12_, Q_X13_, Q_X20_, Q_X21_⟩ hb_ hon hoff
          refine ⟨_, rfl, fun K hK => ?_⟩
          have e2 : a.tmps[2]? = some ((.int .i64 ka)) := by rw [ha]; exact (putSel_off rfl).trans rfl
          replace ha := Aside0.mk ha
          have cG := Aside0.mk Q_cG
          have cL0 := Aside0.mk Q_cL0
          have cL1 := Aside0.mk Q_cL1
          have cM0 := Aside0.mk Q_cM0
          have cM1 := Aside0.mk Q_cM1
          have blk0 := Aside0.mk (Q_blk0 (hoff 23 (by kernel_rfl)))
          have R0 := Aside0.mk (Q_R0 (hoff 13 (by kernel_rfl)))
          have bel := Aside0.mk Q_bel
          have siz := Aside0.mk Q_siz
          have saf := Aside0.mk Q_saf
          refine value_ (w1 := w') (v := (.int .i64 ka)) (by rfl) rfl ?_ ?_
          · go_simp
            (try simp only [i64_w])
            try rfl
          refine hK.out _ _ ⟨K1, K2, g1, cap1, g2, cap2, m12_, m13_, m20_, m21_, (by rw [ha.out]; exact putSel_upk 8 hb_ rfl rfl rfl), Q_cG, Q_cL0, Q_cL1, Q_cM0, Q_cM1, Q_blk0, fun h0_ _ => absurd ((hoff 23 (by kernel_rfl)).symm.trans h0_) (by decide), fun h0_ => absurd ((hoff 25 (by kernel_rfl)).symm.trans h0_) (by decide), Q_R0, fun h0_ _ => absurd ((hoff 13 (by kernel_rfl)).symm.trans h0_) (by decide), fun h0_ => absurd ((hoff 21 (by kernel_rfl)).symm.trans h0_) (by decide), Q_hK1, Q_hK2, Q_bel, Q_siz, Q_saf, Q_X12_, fun h0_ => absurd ((hoff 13 (by kernel_rfl)).symm.trans h0_) (by decide), Q_X20_, fun h0_ => absurd ((hoff 21 (by kernel_rfl)).symm.trans h0_) (by decide)⟩
        refine steps_cons ?_ ?_
        · rintro b a w' ⟨K1, K2, g1, cap1, g2, cap2, m12_, m13_, m20_, m21_, ha, Q_cG, Q_cL0, Q_cL1, Q_cM0, Q_cM1, Q_blk0, Q_blk1, Q_blk2, Q_R0, Q_R1, Q_R2, Q_hK1, Q_hK2, Q_bel, Q_siz, Q_saf, Q_X12_, Q_X13_, Q_X20_, Q_X21_⟩ hb_ hon hoff
          refine ⟨_, rfl, fun K hK => ?_⟩
          have e60 : a.tmps[60]? = some ((.slice (some ⟨P, 0, none⟩) rows.length rows.length)) := by rw [ha]; exact putSel_on (e := (7, 60, (.slice (some ⟨P, 0, none⟩) rows.length rows.length))) 7 rfl rfl (hon 7 (by kernel_rfl)) rfl
          have e61 : a.tmps[61]? = some ((.int .i64 ka)) := by rw [ha]; exact putSel_on (e := (8, 61, (.int .i64 ka))) 8 rfl rfl (hon 8 (by kernel_rfl)) rfl
          replace ha := Aside0.mk ha
          have cG := Aside0.mk Q_cG
          have cL0 := Aside0.mk Q_cL0
          have cL1 := Aside0.mk Q_cL1
          have cM0 := Aside0.mk Q_cM0
          have cM1 := Aside0.mk Q_cM1
          have blk0 := Aside0.mk (Q_blk0 (hoff 23 (by kernel_rfl)))
          have R0 := Aside0.mk (Q_R0 (hoff 13 (by kernel_rfl)))
          have bel := Aside0.mk Q_bel
          have siz := Aside0.mk Q_siz
          have saf := Aside0.mk Q_saf
          refine value_ (w1 := w') (v := (.pointer (some ⟨P, ka, none⟩))) (by rfl) rfl ?_ ?_
          · go_simp
            (try simp only [i64_w])
            try rfl
          refine hK.out _ _ ⟨K1, K2, g1, cap1, g2, cap2, m12_, m13_, m20_, m21_, (by rw [ha.out]; exact putSel_upk 9 hb_ rfl rfl rfl), Q_cG, Q_cL0, Q_cL1, Q_cM0, Q_cM1, Q_blk0, fun h0_ _ => absurd ((hoff 23 (by kernel_rfl)).symm.trans h0_) (by decide), fun h0_ => absurd ((hoff 25 (by kernel_rfl)).symm.trans h0_) (by decide), Q_R0, fun h0_ _ => absurd ((hoff 13 (by kernel_rfl)).symm.trans h0_) (by decide), fun h0_ => absurd ((hoff 21 (by kernel_rfl)).symm.trans h0_) (by decide), Q_hK1, Q_hK2, Q_bel, Q_siz, Q_saf, Q_X12_, fun h0_ => absurd ((hoff 13 (by kernel_rfl)).symm.trans h0_) (by decide), Q_X20_, fun h0_ => absurd ((hoff 21 (by kernel_rfl)).symm.trans h0_) (by decide)⟩
        refine steps_cons ?_ ?_
        · rintro b a w' ⟨K1, K2, g1, cap1, g2, cap2, m12_, m13_, m20_, m21_, ha, Q_cG, Q_cL0, Q_cL1, Q_cM0, Q_cM1, Q_blk0, Q_blk1, Q_blk2, Q_R0, Q_R1, Q_R2, Q_hK1, Q_hK2, Q_bel, Q_siz, Q_saf, Q_X12_, Q_X13_, Q_X20_, Q_X21_⟩ hb_ hon hoff
          refine ⟨_, rfl, fun K hK => ?_⟩
          have e62 : a.tmps[62]? = some ((.pointer (some ⟨P, ka, none⟩))) := by rw [ha]; exact putSel_on (e := (9, 62, (.pointer (some ⟨P, ka, none⟩)))) 9 rfl rfl (hon 9 (by kernel_rfl)) rfl
          replace ha := Aside0.mk ha
          have cG := Aside0.mk Q_cG
          have cL0 := Aside0.mk Q_cL0
          have cL1 := Aside0.mk Q_cL1
          have cM0 := Aside0.mk Q_cM0
          have cM1 := Aside0.mk Q_cM1
          have blk0 := Aside0.mk (Q_blk0 (hoff 23 (by kernel_rfl)))
          have R0 := Aside0.mk (Q_R0 (hoff 13 (by kernel_rfl)))
          have bel := Aside0.mk Q_bel
          have siz := Aside0.mk Q_siz
          have saf := Aside0.mk Q_saf
          have q0 := port_cell blk0.out HA.out
          refine value_ (w1 := w') (v := va) (by rfl) rfl ?_ ?_
          · go_simp
            (try simp only [i64_w])
            try rfl
          refine hK.out _ _ ⟨K1, K2, g1, cap1, g2, cap2, m12_, m13_, m20_, m21_, (by rw [ha.out]; exact putSel_upk 10 hb_ rfl rfl rfl), Q_cG, Q_cL0, Q_cL1, Q_cM0, Q_cM1, Q_blk0, fun h0_ _ => absurd ((hoff 23 (by kernel_rfl)).symm.trans h0_) (by decide), fun h0_ => absurd ((hoff 25 (by kernel_rfl)).symm.trans h0_) (by decide), Q_R0, fun h0_ _ => absurd ((hoff 13 (by kernel_rfl)).symm.trans h0_) (by decide), fun h0_ => absurd ((hoff 21 (by kernel_rfl)).symm.trans h0_) (by decide), Q_hK1, Q_hK2, Q_bel, Q_siz, Q_saf, Q_X12_, fun h0_ => absurd ((hoff 13 (by kernel_rfl)).symm.trans h0_) (by decide), Q_X20_, fun h0_ => absurd ((hoff 21 (by kernel_rfl)).symm.trans h0_) (by decide)⟩
        refine steps_cons ?_ ?_
        · rintro b a w' ⟨K1, K2, g1, cap1, g2, cap2, m12_, m13_, m20_, m21_, ha, Q_cG, Q_cL0, Q_cL1, Q_cM0, Q_cM1, Q_blk0, Q_blk1, Q_blk2, Q_R0, Q_R1, Q_R2, Q_hK1, Q_hK2, Q_bel, Q_siz, Q_saf, Q_X12_, Q_X13_, Q_X20_, Q_X21_⟩ hb_ hon hoff
          refine ⟨_, rfl, fun K hK => ?_⟩
          have e10 : a.tmps[10]? = some ((.pointer (some ⟨w1.heap.size, 0, none⟩))) := by rw [ha]; exact (putSel_off rfl).trans rfl
          replace ha := Aside0.mk ha
          have cG := Aside0.mk Q_cG
          have cL0 := Aside0.mk Q_cL0
          have cL1 := Aside0.mk Q_cL1
          have cM0 := Aside0.mk Q_cM0
          have cM1 := Aside0.mk Q_cM1
          have blk0 := Aside0.mk (Q_blk0 (hoff 23 (by kernel_rfl)))
          have R0 := Aside0.mk (Q_R0 (hoff 13 (by kernel_rfl)))
          have bel := Aside0.mk Q_bel
          have siz := Aside0.mk Q_siz
          have saf := Aside0.mk Q_saf
          have q0 := cL0.out
          have q1 := cL1.out
          refine value_ (w1 := w') (v := (.agg #[(.int .i64 kb), (.int .i64 wt)])) (by rfl) rfl ?_ ?_
          · go_simp
            (try simp only [i64_w])
            try rfl
          refine hK.out _ _ ⟨K1, K2, g1, cap1, g2, cap2, m12_, m13_, m20_, m21_, (by rw [ha.out]; exact putSel_upk 11 hb_ rfl rfl rfl), Q_cG, Q_cL0, Q_cL1, Q_cM0, Q_cM1, Q_blk0, fun h0_ _ => absurd ((hoff 23 (by kernel_rfl)).symm.trans h0_) (by decide), fun h0_ => absurd ((hoff 25 (by kernel_rfl)).symm.trans h0_) (by decide), Q_R0, fun h0_ _ => absurd ((hoff 13 (by kernel_rfl)).symm.trans h0_) (by decide), fun h0_ => absurd ((hoff 21 (by kernel_rfl)).symm.trans h0_) (by decide), fun h0_ _ => absurd ((hoff 12 (by kernel_rfl)).symm.trans h0_) (by decide), Q_hK2, Q_bel, Q_siz, Q_saf, fun h0_ => absurd ((hoff 12 (by kernel_rfl)).symm.trans h0_) (by decide), fun h0_ => absurd ((hoff 13 (by kernel_rfl)).symm.trans h0_) (by decide), Q_X20_, fun h0_ => absurd ((hoff 21 (by kernel_rfl)).symm.trans h0_) (by decide)⟩
        refine steps_cons ?_ ?_
        · rintro b a w' ⟨K1, K2, g1, cap1, g2, cap2, m12_, m13_, m20_, m21_, ha, Q_cG, Q_cL0, Q_cL1, Q_cM0, Q_cM1, Q_blk0, Q_blk1, Q_blk2, Q_R0, Q_R1, Q_R2, Q_hK1, Q_hK2, Q_bel, Q_siz, Q_saf, Q_X12_, Q_X13_, Q_X20_, Q_X21_⟩ hb_ hon hoff
          refine ⟨_, rfl, fun K hK => ?_⟩
          have e64 : a.tmps[64]? = some ((.agg #[(.int .i64 kb), (.int .i64 wt)])) := by rw [ha]; exact putSel_on (e := (11, 64, (.agg #[(.int .i64 kb), (.int .i64 wt)]))) 11 rfl rfl (hon 11 (by kernel_rfl)) rfl
          replace ha := Aside0.mk ha
          have cG := Aside0.mk Q_cG
          have cL0 := Aside0.mk Q_cL0
          have cL1 := Aside0.mk Q_cL1
          have cM0 := Aside0.mk Q_cM0
          have cM1 := Aside0.mk Q_cM1
          have blk0 := Aside0.mk (Q_blk0 (hoff 23 (by kernel_rfl)))
          have R0 := Aside0.mk (Q_R0 (hoff 13 (by kernel_rfl)))
          have bel := Aside0.mk Q_bel
          have siz := Aside0.mk Q_siz
          have saf := Aside0.mk Q_saf
          refine value_ (w1 := w'.alloc (.cells #[(.int .i64 kb), (.int .i64 wt)] 60)) (v := .slice (some ⟨w'.heap.size, 0, none⟩) 1 1) (by rfl) rfl ?_ ?_
          · go_simp
            try rfl
          refine hK.out _ _ ⟨w'.heap.size, K2, g1, cap1, g2, cap2, ((.slice (some ⟨w'.heap.size, 0, none⟩) 1 1 : Value)), m13_, m20_, m21_, (by rw [ha.out]; exact putSel_upk 12 hb_ rfl rfl rfl), cell_a _ cG.out, cell_a _ cL0.out, cell_a _ cL1.out, cell_a _ cM0.out, cell_a _ cM1.out, fun _ => (Below.heap_alloc _ _ _ (blk_lt blk0.out)).trans blk0.out, fun h0_ _ => absurd ((hoff 23 (by kernel_rfl)).symm.trans h0_) (by decide), fun h0_ => absurd ((hoff 25 (by kernel_rfl)).symm.trans h0_) (by decide), fun _ => R0.out.alloc _, fun h0_ _ => absurd ((hoff 13 (by kernel_rfl)).symm.trans h0_) (by decide), fun h0_ => absurd ((hoff 21 (by kernel_rfl)).symm.trans h0_) (by decide), fun _ _ => ⟨siz.out, heap_alloc_new _ _⟩, fun h0_ h1_ => ⟨(Q_hK2 h0_ h1_).1, (Below.heap_alloc _ _ _ (blk_lt (Q_hK2 h0_ h1_).2)).trans (Q_hK2 h0_ h1_).2⟩, bel.out.alloc (Nat.le_trans hbW siz.out) _, Nat.le_trans siz.out (by simp), saf.out.alloc _, fun _ => rfl, fun h0_ => absurd ((hoff 13 (by kernel_rfl)).symm.trans h0_) (by decide), Q_X20_, fun h0_ => absurd ((hoff 21 (by kernel_rfl)).symm.trans h0_) (by decide)⟩
        refine steps_cons ?_ ?_
        · rintro b a w' ⟨K1, K2, g1, cap1, g2, cap2, m12_, m13_, m20_, m21_, ha, Q_cG, Q_cL0, Q_cL1, Q_cM0, Q_cM1, Q_blk0, Q_blk1, Q_blk2, Q_R0, Q_R1, Q_R2, Q_hK1, Q_hK2, Q_bel, Q_siz, Q_saf, Q_X12_, Q_X13_, Q_X20_, Q_X21_⟩ hb_ hon hoff
          refine ⟨_, rfl, fun K hK => ?_⟩
          have e63 : a.tmps[63]? = some (va) := by rw [ha]; exact putSel_on (e := (10, 63, va)) 10 rfl rfl (hon 10 (by kernel_rfl)) rfl
          have e65 : a.tmps[65]? = some (m12_) := by rw [ha]; exact putSel_on (e := (12, 65, m12_)) 12 rfl rfl (hon 12 (by kernel_rfl)) rfl
          rw [Q_X12_ (hon 12 (by kernel_rfl))] at e65
          replace ha := Aside0.mk ha
          have cG := Aside0.mk Q_cG
          have cL0 := Aside0.mk Q_cL0
          have cL1 := Aside0.mk Q_cL1
          have cM0 := Aside0.mk Q_cM0
          have cM1 := Aside0.mk Q_cM1
          have blk0 := Aside0.mk (Q_blk0 (hoff 23 (by kernel_rfl)))
          have R0 := Aside0.mk (Q_R0 hb_)
          have hK1 := Aside0.mk (Q_hK1 (hon 12 (by kernel_rfl)) hb_)
          have bel := Aside0.mk Q_bel
          have siz := Aside0.mk Q_siz
          have saf := Aside0.mk Q_saf
          refine step_append_lies _ (by rfl) (.tmp 63) (.tmp 65) _ (by rfl) base 60 i0 _ 2 16 Try.underlying52 hi0 hz0 hz1 hz2 rfl (by omega) va ra.length (lcells ra) (eval_of e63) (R0.out.own ka va ra HA.out HRa.out) _ 1 1 [(.int .i64 kb), (.int .i64 wt)] (eval_of e65) (by rfl) (World.news_of_block (cs := #[(.int .i64 kb), (.int .i64 wt)]) hK1.out.2) (by simp [Value.oneCell']) (by omega) (by have := HLa.out; unfold maxLen; omega) (by have := HLa.out; omega) (Nat.le_trans hbW siz.out) _ (by rfl) ?_
          intro gn capn wn hown hgr hat hlt
          refine hK.out _ _ ⟨K1, K2, gn, capn, g2, cap2, m12_, ((.slice (some ⟨gn, 0, none⟩) (ra.length + 1) capn : Value)), m20_, m21_, (by rw [ha.out]; exact putSel_upk 13 hb_ rfl rfl rfl), hgr.cell cG.out NGa.out, hgr.cell cL0.out NLa.out, hgr.cell cL1.out NLa.out, hgr.cell cM0.out NMa.out, hgr.cell cM1.out NMa.out, fun _ => (hgr.block _ (blk_lt blk0.out) NPa.out).trans blk0.out, fun h0_ _ => absurd ((hoff 23 (by kernel_rfl)).symm.trans h0_) (by decide), fun h0_ => absurd ((hoff 25 (by kernel_rfl)).symm.trans h0_) (by decide), fun h0_ => absurd ((up_self b 13).symm.trans h0_) (by decide), fun _ _ => R0.out.upd HA.out hgr (by simpa [lcells_append, lcells_one] using hown) (by simp) (.inr (by rcases hat with h | h; exact .inl h.symm; exact .inr ⟨gn, rfl, by rw [h]; exact Nat.le_refl _⟩)), fun h0_ => absurd ((hoff 21 (by kernel_rfl)).symm.trans h0_) (by decide), fun _ h1_ => absurd ((up_self b 13).symm.trans h1_) (by decide), fun h0_ h1_ => ⟨(Q_hK2 h0_ h1_).1, (hgr.block _ (blk_lt (Q_hK2 h0_ h1_).2) (fun e => by have := La.out _ e.symm; have := (Q_hK2 h0_ h1_).1; omega)).trans (Q_hK2 h0_ h1_).2⟩, bel.out.grown hgr (Nat.le_trans hbW siz.out) HBa.out, Nat.le_trans siz.out hgr.size, saf.out.grown hgr (fun k hk => (own_typed (R0.out.own ka va ra HA.out HRa.out) k hk).2), Q_X12_, fun _ => rfl, Q_X20_, fun h0_ => absurd ((hoff 21 (by kernel_rfl)).symm.trans h0_) (by decide)⟩
        refine steps_cons ?_ ?_
        · rintro b a w' ⟨K1, K2, g1, cap1, g2, cap2, m12_, m13_, m20_, m21_, ha, Q_cG, Q_cL0, Q_cL1, Q_cM0, Q_cM1, Q_blk0, Q_blk1, Q_blk2, Q_R0, Q_R1, Q_R2, Q_hK1, Q_hK2, Q_bel, Q_siz, Q_saf, Q_X12_, Q_X13_, Q_X20_, Q_X21_⟩ hb_ hon hoff
          refine ⟨_, rfl, fun K hK => ?_⟩
          have e6 : a.tmps[6]? = some ((.pointer (some ⟨w.heap.size + 1, 0, none⟩))) := by rw [ha]; exact (putSel_off rfl).trans rfl
          replace ha := Aside0.mk ha
          have cG := Aside0.mk Q_cG
          have cL0 := Aside0.mk Q_cL0
          have cL1 := Aside0.mk Q_cL1
          have cM0 := Aside0.mk Q_cM0
          have cM1 := Aside0.mk Q_cM1
          have blk0 := Aside0.mk (Q_blk0 (hoff 23 (by kernel_rfl)))
          have bel := Aside0.mk Q_bel
          have siz := Aside0.mk Q_siz
          have saf := Aside0.mk Q_saf
          refine value_ (w1 := w') (v := (.pointer (some ⟨w.heap.size + 1, 1, none⟩))) (by rfl) rfl ?_ ?_
          · go_simp
            (try simp only [i64_w])
            try rfl
          refine hK.out _ _ ⟨K1, K2, g1, cap1, g2, cap2, m12_, m13_, m20_, m21_, (by rw [ha.out]; exact putSel_upk 14 hb_ rfl rfl rfl), Q_cG, Q_cL0, Q_cL1, Q_cM0, Q_cM1, Q_blk0, fun h0_ _ => absurd ((hoff 23 (by kernel_rfl)).symm.trans h0_) (by decide), fun h0_ => absurd ((hoff 25 (by kernel_rfl)).symm.trans h0_) (by decide), Q_R0, Q_R1, fun h0_ => absurd ((hoff 21 (by kernel_rfl)).symm.trans h0_) (by decide), Q_hK1, Q_hK2, Q_bel, Q_siz, Q_saf, Q_X12_, Q_X13_, Q_X20_, fun h0_ => absurd ((hoff 21 (by kernel_rfl)).symm.trans h0_) (by decide)⟩
        refine steps_cons ?_ ?_
        · rintro b a w' ⟨K1, K2, g1, cap1, g2, cap2, m12_, m13_, m20_, m21_, ha, Q_cG, Q_cL0, Q_cL1, Q_cM0, Q_cM1, Q_blk0, Q_blk1, Q_blk2, Q_R0, Q_R1, Q_R2, Q_hK1, Q_hK2, Q_bel, Q_siz, Q_saf, Q_X12_, Q_X13_, Q_X20_, Q_X21_⟩ hb_ hon hoff
          refine ⟨_, rfl, fun K hK => ?_⟩
          have e67 : a.tmps[67]? = some ((.pointer (some ⟨w.heap.size + 1, 1, none⟩))) := by rw [ha]; exact putSel_on (e := (14, 67, (.pointer (some ⟨w.heap.size + 1, 1, none⟩)))) 14 rfl rfl (hon 14 (by kernel_rfl)) rfl
          replace ha := Aside0.mk ha
          have cG := Aside0.mk Q_cG
          have cL0 := Aside0.mk Q_cL0
          have cL1 := Aside0.mk Q_cL1
          have cM0 := Aside0.mk Q_cM0
          have cM1 := Aside0.mk Q_cM1
          have blk0 := Aside0.mk (Q_blk0 (hoff 23 (by kernel_rfl)))
          have bel := Aside0.mk Q_bel
          have siz := Aside0.mk Q_siz
          have saf := Aside0.mk Q_saf
          have q0 := cG.out
          refine value_ (w1 := w') (v := (.slice (some ⟨P, 0, none⟩) rows.length rows.length)) (by rfl) rfl ?_ ?_
          · go_simp
            (try simp only [i64_w])
            try rfl
          refine hK.out _ _ ⟨K1, K2, g1, cap1, g2, cap2, m12_, m13_, m20_, m21_, (by rw [ha.out]; exact putSel_upk 15 hb_ rfl rfl rfl), Q_cG, Q_cL0, Q_cL1, Q_cM0, Q_cM1, Q_blk0, fun h0_ _ => absurd ((hoff 23 (by kernel_rfl)).symm.trans h0_) (by decide), fun h0_ => absurd ((hoff 25 (by kernel_rfl)).symm.trans h0_) (by decide), Q_R0, Q_R1, fun h0_ => absurd ((hoff 21 (by kernel_rfl)).symm.trans h0_) (by decide), Q_hK1, Q_hK2, Q_bel, Q_siz, Q_saf, Q_X12_, Q_X13_, Q_X20_, fun h0_ => absurd ((hoff 21 (by kernel_rfl)).symm.trans h0_) (by decide)⟩
        refine steps_cons ?_ ?_
        · rintro b a w' ⟨K1, K2, g1, cap1, g2, cap2, m12_, m13_, m20_, m21_, ha, Q_cG, Q_cL0, Q_cL1, Q_cM0, Q_cM1, Q_blk0, Q_blk1, Q_blk2, Q_R0, Q_R1, Q_R2, Q_hK1, Q_hK2, Q_bel, Q_siz, Q_saf, Q_X12_, Q_X13_, Q_X20_, Q_X21_⟩ hb_ hon hoff
          refine ⟨_, rfl, fun K hK => ?_⟩
          have e3 : a.tmps[3]? = some ((.int .i64 kb)) := by rw [ha]; exact (putSel_off rfl).trans rfl
          replace ha := Aside0.mk ha
          have cG := Aside0.mk Q_cG
          have cL0 := Aside0.mk Q_cL0
          have cL1 := Aside0.mk Q_cL1
          have cM0 := Aside0.mk Q_cM0
          have cM1 := Aside0.mk Q_cM1
          have blk0 := Aside0.mk (Q_blk0 (hoff 23 (by kernel_rfl)))
          have bel := Aside0.mk Q_bel
          have siz := Aside0.mk Q_siz
          have saf := Aside0.mk Q_saf
          refine value_ (w1 := w') (v := (.int .i64 kb)) (by rfl) rfl ?_ ?_
          · go_simp
            (try simp only [i64_w])
            try rfl
          refine hK.out _ _ ⟨K1, K2, g1, cap1, g2, cap2, m12_, m13_, m20_, m21_, (by rw [ha.out]; exact putSel_upk 16 hb_ rfl rfl rfl), Q_cG, Q_cL0, Q_cL1, Q_cM0, Q_cM1, Q_blk0, fun h0_ _ => absurd ((hoff 23 (by kernel_rfl)).symm.trans h0_) (by decide), fun h0_ => absurd ((hoff 25 (by kernel_rfl)).symm.trans h0_) (by decide), Q_R0, Q_R1, fun h0_ => absurd ((hoff 21 (by kernel_rfl)).symm.trans h0_) (by decide), Q_hK1, Q_hK2, Q_bel, Q_siz, Q_saf, Q_X12_, Q_X13_, Q_X20_, fun h0_ => absurd ((hoff 21 (by kernel_rfl)).symm.trans h0_) (by decide)⟩
        refine steps_cons ?_ ?_
        · rintro b a w' ⟨K1, K2, g1, cap1, g2, cap2, m12_, m13_, m20_, m21_, ha, Q_cG, Q_cL0, Q_cL1, Q_cM0, Q_cM1, Q_blk0, Q_blk1, Q_blk2, Q_R0, Q_R1, Q_R2, Q_hK1, Q_hK2, Q_bel, Q_siz, Q_saf, Q_X12_, Q_X13_, Q_X20_, Q_X21_⟩ hb_ hon hoff
          refine ⟨_, rfl, fun K hK => ?_⟩
          have e68 : a.tmps[68]? = some ((.slice (some ⟨P, 0, none⟩) rows.length rows.length)) := by rw [ha]; exact putSel_on (e := (15, 68, (.slice (some ⟨P, 0, none⟩) rows.length rows.length))) 15 rfl rfl (hon 15 (by kernel_rfl)) rfl
          have e69 : a.tmps[69]? = some ((.int .i64 kb)) := by rw [ha]; exact putSel_on (e := (16, 69, (.int .i64 kb))) 16 rfl rfl (hon 16 (by kernel_rfl)) rfl
          replace ha := Aside0.mk ha
          have cG := Aside0.mk Q_cG
          have cL0 := Aside0.mk Q_cL0
          have cL1 := Aside0.mk Q_cL1
          have cM0 := Aside0.mk Q_cM0
          have cM1 := Aside0.mk Q_cM1
          have blk0 := Aside0.mk (Q_blk0 (hoff 23 (by kernel_rfl)))
          have bel := Aside0.mk Q_bel
          have siz := Aside0.mk Q_siz
          have saf := Aside0.mk Q_saf
          refine value_ (w1 := w') (v := (.pointer (some ⟨P, kb, none⟩))) (by rfl) rfl ?_ ?_
          · go_simp
            (try simp only [i64_w])
            try rfl
          refine hK.out _ _ ⟨K1, K2, g1, cap1, g2, cap2, m12_, m13_, m20_, m21_, (by rw [ha.out]; exact putSel_upk 17 hb_ rfl rfl rfl), Q_cG, Q_cL0, Q_cL1, Q_cM0, Q_cM1, Q_blk0, fun h0_ _ => absurd ((hoff 23 (by kernel_rfl)).symm.trans h0_) (by decide), fun h0_ => absurd ((hoff 25 (by kernel_rfl)).symm.trans h0_) (by decide), Q_R0, Q_R1, fun h0_ => absurd ((hoff 21 (by kernel_rfl)).symm.trans h0_) (by decide), Q_hK1, Q_hK2, Q_bel, Q_siz, Q_saf, Q_X12_, Q_X13_, Q_X20_, fun h0_ => absurd ((hoff 21 (by kernel_rfl)).symm.trans h0_) (by decide)⟩
        refine steps_cons ?_ ?_
        · rintro b a w' ⟨K1, K2, g1, cap1, g2, cap2, m12_, m13_, m20_, m21_, ha, Q_cG, Q_cL0, Q_cL1, Q_cM0, Q_cM1, Q_blk0, Q_blk1, Q_blk2, Q_R0, Q_R1, Q_R2, Q_hK1, Q_hK2, Q_bel, Q_siz, Q_saf, Q_X12_, Q_X13_, Q_X20_, Q_X21_⟩ hb_ hon hoff
          refine ⟨_, rfl, fun K hK => ?_⟩
          have e70 : a.tmps[70]? = some ((.pointer (some ⟨P, kb, none⟩))) := by rw [ha]; exact putSel_on (e := (17, 70, (.pointer (some ⟨P, kb, none⟩)))) 17 rfl rfl (hon 17 (by kernel_rfl)) rfl
          replace ha := Aside0.mk ha
          have cG := Aside0.mk Q_cG
          have cL0 := Aside0.mk Q_cL0
          have cL1 := Aside0.mk Q_cL1
          have cM0 := Aside0.mk Q_cM0
          have cM1 := Aside0.mk Q_cM1
          have blk0 := Aside0.mk (Q_blk0 (hoff 23 (by kernel_rfl)))
          have bel := Aside0.mk Q_bel
          have siz := Aside0.mk Q_siz
          have saf := Aside0.mk Q_saf
          have q0 := port_cell blk0.out Hb.out
          refine value_ (w1 := w') (v := vb) (by rfl) rfl ?_ ?_
          · go_simp
            (try simp only [i64_w])
            try rfl
          refine hK.out _ _ ⟨K1, K2, g1, cap1, g2, cap2, m12_, m13_, m20_, m21_, (by rw [ha.out]; exact putSel_upk 18 hb_ rfl rfl rfl), Q_cG, Q_cL0, Q_cL1, Q_cM0, Q_cM1, Q_blk0, fun h0_ _ => absurd ((hoff 23 (by kernel_rfl)).symm.trans h0_) (by decide), fun h0_ => absurd ((hoff 25 (by kernel_rfl)).symm.trans h0_) (by decide), Q_R0, Q_R1, fun h0_ => absurd ((hoff 21 (by kernel_rfl)).symm.trans h0_) (by decide), Q_hK1, Q_hK2, Q_bel, Q_siz, Q_saf, Q_X12_, Q_X13_, Q_X20_, fun h0_ => absurd ((hoff 21 (by kernel_rfl)).symm.trans h0_) (by decide)⟩
        refine steps_cons ?_ ?_
        · rintro b a w' ⟨K1, K2, g1, cap1, g2, cap2, m12_, m13_, m20_, m21_, ha, Q_cG, Q_cL0, Q_cL1, Q_cM0, Q_cM1, Q_blk0, Q_blk1, Q_blk2, Q_R0, Q_R1, Q_R2, Q_hK1, Q_hK2, Q_bel, Q_siz, Q_saf, Q_X12_, Q_X13_, Q_X20_, Q_X21_⟩ hb_ hon hoff
          refine ⟨_, rfl, fun K hK => ?_⟩
          have e11 : a.tmps[11]? = some ((.pointer (some ⟨w1.heap.size + 1, 0, none⟩))) := by rw [ha]; exact (putSel_off rfl).trans rfl
          replace ha := Aside0.mk ha
          have cG := Aside0.mk Q_cG
          have cL0 := Aside0.mk Q_cL0
          have cL1 := Aside0.mk Q_cL1
          have cM0 := Aside0.mk Q_cM0
          have cM1 := Aside0.mk Q_cM1
          have blk0 := Aside0.mk (Q_blk0 (hoff 23 (by kernel_rfl)))
          have bel := Aside0.mk Q_bel
          have siz := Aside0.mk Q_siz
          have saf := Aside0.mk Q_saf
          have q0 := cM0.out
          have q1 := cM1.out
          refine value_ (w1 := w') (v := (.agg #[(.int .i64 ka), (.int .i64 wt)])) (by rfl) rfl ?_ ?_
          · go_simp
            (try simp only [i64_w])
            try rfl
          refine hK.out _ _ ⟨K1, K2, g1, cap1, g2, cap2, m12_, m13_, m20_, m21_, (by rw [ha.out]; exact putSel_upk 19 hb_ rfl rfl rfl), Q_cG, Q_cL0, Q_cL1, Q_cM0, Q_cM1, Q_blk0, fun h0_ _ => absurd ((hoff 23 (by kernel_rfl)).symm.trans h0_) (by decide), fun h0_ => absurd ((hoff 25 (by kernel_rfl)).symm.trans h0_) (by decide), Q_R0, Q_R1, fun h0_ => absurd ((hoff 21 (by kernel_rfl)).symm.trans h0_) (by decide), Q_hK1, fun h0_ _ => absurd ((hoff 20 (by kernel_rfl)).symm.trans h0_) (by decide), Q_bel, Q_siz, Q_saf, Q_X12_, Q_X13_, fun h0_ => absurd ((hoff 20 (by kernel_rfl)).symm.trans h0_) (by decide), fun h0_ => absurd ((hoff 21 (by kernel_rfl)).symm.trans h0_) (by decide)⟩
        refine steps_cons ?_ ?_
        · rintro b a w' ⟨K1, K2, g1, cap1, g2, cap2, m12_, m13_, m20_, m21_, ha, Q_cG, Q_cL0, Q_cL1, Q_cM0, Q_cM1, Q_blk0, Q_blk1, Q_blk2, Q_R0, Q_R1, Q_R2, Q_hK1, Q_hK2, Q_bel, Q_siz, Q_saf, Q_X12_, Q_X13_, Q_X20_, Q_X21_⟩ hb_ hon hoff
          refine ⟨_, rfl, fun K hK => ?_⟩
          have e72 : a.tmps[72]? = some ((.agg #[(.int .i64 ka), (.int .i64 wt)])) := by rw [ha]; exact putSel_on (e := (19, 72, (.agg #[(.int .i64 ka), (.int .i64 wt)]))) 19 rfl rfl (hon 19 (by kernel_rfl)) rfl
          replace ha := Aside0.mk ha
          have cG := Aside0.mk Q_cG
          have cL0 := Aside0.mk Q_cL0
          have cL1 := Aside0.mk Q_cL1
          have cM0 := Aside0.mk Q_cM0
          have cM1 := Aside0.mk Q_cM1
          have blk0 := Aside0.mk (Q_blk0 (hoff 23 (by kernel_rfl)))
          have bel := Aside0.mk Q_bel
          have siz := Aside0.mk Q_siz
          have saf := Aside0.mk Q_saf
          refine value_ (w1 := w'.alloc (.cells #[(.int .i64 ka), (.int .i64 wt)] 60)) (v := .slice (some ⟨w'.heap.size, 0, none⟩) 1 1) (by rfl) rfl ?_ ?_
          · go_simp
            try rfl
          refine hK.out _ _ ⟨K1, w'.heap.size, g1, cap1, g2, cap2, m12_, m13_, ((.slice (some ⟨w'.heap.size, 0, none⟩) 1 1 : Value)), m21_, (by rw [ha.out]; exact putSel_upk 20 hb_ rfl rfl rfl), cell_a _ cG.out, cell_a _ cL0.out, cell_a _ cL1.out, cell_a _ cM0.out, cell_a _ cM1.out, fun _ => (Below.heap_alloc _ _ _ (blk_lt blk0.out)).trans blk0.out, fun h0_ _ => absurd ((hoff 23 (by kernel_rfl)).symm.trans h0_) (by decide), fun h0_ => absurd ((hoff 25 (by kernel_rfl)).symm.trans h0_) (by decide), fun h0_ => (Q_R0 h0_).alloc _, fun h0_ h1_ => (Q_R1 h0_ h1_).alloc _, fun h0_ => absurd ((hoff 21 (by kernel_rfl)).symm.trans h0_) (by decide), fun h0_ h1_ => ⟨(Q_hK1 h0_ h1_).1, (Below.heap_alloc _ _ _ (blk_lt (Q_hK1 h0_ h1_).2)).trans (Q_hK1 h0_ h1_).2⟩, fun _ _ => ⟨siz.out, heap_alloc_new _ _⟩, bel.out.alloc (Nat.le_trans hbW siz.out) _, Nat.le_trans siz.out (by simp), saf.out.alloc _, Q_X12_, Q_X13_, fun _ => rfl, fun h0_ => absurd ((hoff 21 (by kernel_rfl)).symm.trans h0_) (by decide)⟩
        refine steps_cons ?_ ?_
        · rintro b a w' ⟨K1, K2, g1, cap1, g2, cap2, m12_, m13_, m20_, m21_, ha, Q_cG, Q_cL0, Q_cL1, Q_cM0, Q_cM1, Q_blk0, Q_blk1, Q_blk2, Q_R0, Q_R1, Q_R2, Q_hK1, Q_hK2, Q_bel, Q_siz, Q_saf, Q_X12_, Q_X13_, Q_X20_, Q_X21_⟩ hb_ hon hoff
          refine ⟨_, rfl, fun K hK => ?_⟩
          have e71 : a.tmps[71]? = some (vb) := by rw [ha]; exact putSel_on (e := (18, 71, vb)) 18 rfl rfl (hon 18 (by kernel_rfl)) rfl
          have e73 : a.tmps[73]? = some (m20_) := by rw [ha]; exact putSel_on (e := (20, 73, m20_)) 20 rfl rfl (hon 20 (by kernel_rfl)) rfl
          rw [Q_X20_ (hon 20 (by kernel_rfl))] at e73
          replace ha := Aside0.mk ha
          have cG := Aside0.mk Q_cG
          have cL0 := Aside0.mk Q_cL0
          have cL1 := Aside0.mk Q_cL1
          have cM0 := Aside0.mk Q_cM0
          have cM1 := Aside0.mk Q_cM1
          have blk0 := Aside0.mk (Q_blk0 (hoff 23 (by kernel_rfl)))
          have R1 := Aside0.mk (Q_R1 (hon 13 (by kernel_rfl)) hb_)
          have hK2 := Aside0.mk (Q_hK2 (hon 20 (by kernel_rfl)) hb_)
          have bel := Aside0.mk Q_bel
          have siz := Aside0.mk Q_siz
          have saf := Aside0.mk Q_saf
          have HVB : Hid ((vs.set ka (.slice (some ⟨g1, 0, none⟩) (ra.length + 1) cap1 : Value))[kb]? = some vb) := by unfold Hid; rw [List.getElem?_set_ne hne1]; exact Hb.out
          have HRB2 : Hid ((rows.set ka (ra ++ [(⟨kb, wt⟩ : Link)]))[kb]? = some rb) := by unfold Hid; rw [List.getElem?_set_ne hne1]; exact HRb.out
          refine step_append_lies _ (by rfl) (.tmp 71) (.tmp 73) _ (by rfl) base 60 i0 _ 2 16 Try.underlying52 hi0 hz0 hz1 hz2 rfl (by omega) vb rb.length (lcells rb) (eval_of e71) (R1.out.own kb vb rb HVB.out HRB2.out) _ 1 1 [(.int .i64 ka), (.int .i64 wt)] (eval_of e73) (by rfl) (World.news_of_block (cs := #[(.int .i64 ka), (.int .i64 wt)]) hK2.out.2) (by simp [Value.oneCell']) (by omega) (by have := HLb.out; unfold maxLen; omega) (by have := HLb.out; omega) (Nat.le_trans hbW siz.out) _ (by rfl) ?_
          intro gn capn wn hown hgr hat hlt
          refine hK.out _ _ ⟨K1, K2, g1, cap1, gn, capn, m12_, m13_, m20_, ((.slice (some ⟨gn, 0, none⟩) (rb.length + 1) capn : Value)), (by rw [ha.out]; exact putSel_upk 21 hb_ rfl rfl rfl), hgr.cell cG.out NGb.out, hgr.cell cL0.out NLb.out, hgr.cell cL1.out NLb.out, hgr.cell cM0.out NMb.out, hgr.cell cM1.out NMb.out, fun _ => (hgr.block _ (blk_lt blk0.out) NPb.out).trans blk0.out, fun h0_ _ => absurd ((hoff 23 (by kernel_rfl)).symm.trans h0_) (by decide), fun h0_ => absurd ((hoff 25 (by kernel_rfl)).symm.trans h0_) (by decide), fun h0_ => absurd ((hon 13 (by kernel_rfl)).symm.trans h0_) (by decide), fun _ h1_ => absurd ((up_self b 21).symm.trans h1_) (by decide), fun _ => R1.out.upd HVB.out hgr (by simpa [lcells_append, lcells_one] using hown) (by simp) (.inr (by rcases hat with h | h; exact .inl h.symm; exact .inr ⟨gn, rfl, by rw [h]; exact Nat.le_refl _⟩)), fun _ h1_ => absurd ((hon 13 (by kernel_rfl)).symm.trans h1_) (by decide), fun _ h1_ => absurd ((up_self b 21).symm.trans h1_) (by decide), bel.out.grown hgr (Nat.le_trans hbW siz.out) HBb.out, Nat.le_trans siz.out hgr.size, saf.out.grown hgr (fun k hk => (own_typed (R1.out.own kb vb rb HVB.out HRB2.out) k hk).2), Q_X12_, Q_X13_, Q_X20_, fun _ => rfl⟩
        refine steps_cons ?_ ?_
        · rintro b a w' ⟨K1, K2, g1, cap1, g2, cap2, m12_, m13_, m20_, m21_, ha, Q_cG, Q_cL0, Q_cL1, Q_cM0, Q_cM1, Q_blk0, Q_blk1, Q_blk2, Q_R0, Q_R1, Q_R2, Q_hK1, Q_hK2, Q_bel, Q_siz, Q_saf, Q_X12_, Q_X13_, Q_X20_, Q_X21_⟩ hb_ hon hoff
          refine ⟨_, rfl, fun K hK => ?_⟩
          have e54 : a.tmps[54]? = some ((.slice (some ⟨P, 0, none⟩) rows.length rows.length)) := by rw [ha]; exact putSel_on (e := (1, 54, (.slice (some ⟨P, 0, none⟩) rows.length rows.length))) 1 rfl rfl (hon 1 (by kernel_rfl)) rfl
          have e55 : a.tmps[55]? = some ((.int .i64 ka)) := by rw [ha]; exact putSel_on (e := (2, 55, (.int .i64 ka))) 2 rfl rfl (hon 2 (by kernel_rfl)) rfl
          replace ha := Aside0.mk ha
          have cG := Aside0.mk Q_cG
          have cL0 := Aside0.mk Q_cL0
          have cL1 := Aside0.mk Q_cL1
          have cM0 := Aside0.mk Q_cM0
          have cM1 := Aside0.mk Q_cM1
          have blk0 := Aside0.mk (Q_blk0 (hoff 23 (by kernel_rfl)))
          have R2 := Aside0.mk (Q_R2 (hon 21 (by kernel_rfl)))
          have bel := Aside0.mk Q_bel
          have siz := Aside0.mk Q_siz
          have saf := Aside0.mk Q_saf
          refine value_ (w1 := w') (v := (.pointer (some ⟨P, ka, none⟩))) (by rfl) rfl ?_ ?_
          · go_simp
            (try simp only [i64_w])
            try rfl
          refine hK.out _ _ ⟨K1, K2, g1, cap1, g2, cap2, m12_, m13_, m20_, m21_, (by rw [ha.out]; exact putSel_upk 22 hb_ rfl rfl rfl), Q_cG, Q_cL0, Q_cL1, Q_cM0, Q_cM1, Q_blk0, fun h0_ _ => absurd ((hoff 23 (by kernel_rfl)).symm.trans h0_) (by decide), fun h0_ => absurd ((hoff 25 (by kernel_rfl)).symm.trans h0_) (by decide), fun h0_ => absurd ((hon 13 (by kernel_rfl)).symm.trans h0_) (by decide), fun _ h1_ => absurd ((hon 21 (by kernel_rfl)).symm.trans h1_) (by decide), Q_R2, fun _ h1_ => absurd ((hon 13 (by kernel_rfl)).symm.trans h1_) (by decide), fun _ h1_ => absurd ((hon 21 (by kernel_rfl)).symm.trans h1_) (by decide), Q_bel, Q_siz, Q_saf, Q_X12_, Q_X13_, Q_X20_, Q_X21_⟩
        refine steps_cons ?_ ?_
        · rintro b a w' ⟨K1, K2, g1, cap1, g2, cap2, m12_, m13_, m20_, m21_, ha, Q_cG, Q_cL0, Q_cL1, Q_cM0, Q_cM1, Q_blk0, Q_blk1, Q_blk2, Q_R0, Q_R1, Q_R2, Q_hK1, Q_hK2, Q_bel, Q_siz, Q_saf, Q_X12_, Q_X13_, Q_X20_, Q_X21_⟩ hb_ hon hoff
          refine ⟨_, rfl, fun K hK => ?_⟩
          have e75 : a.tmps[75]? = some ((.pointer (some ⟨P, ka, none⟩))) := by rw [ha]; exact putSel_on (e := (22, 75, (.pointer (some ⟨P, ka, none⟩)))) 22 rfl rfl (hon 22 (by kernel_rfl)) rfl
          have e66 : a.tmps[66]? = some (m13_) := by rw [ha]; exact putSel_on (e := (13, 66, m13_)) 13 rfl rfl (hon 13 (by kernel_rfl)) rfl
          rw [Q_X13_ (hon 13 (by kernel_rfl))] at e66
          replace ha := Aside0.mk ha
          have cG := Aside0.mk Q_cG
          have cL0 := Aside0.mk Q_cL0
          have cL1 := Aside0.mk Q_cL1
          have cM0 := Aside0.mk Q_cM0
          have cM1 := Aside0.mk Q_cM1
          have blk0 := Aside0.mk (Q_blk0 hb_)
          have R2 := Aside0.mk (Q_R2 (hon 21 (by kernel_rfl)))
          have bel := Aside0.mk Q_bel
          have siz := Aside0.mk Q_siz
          have saf := Aside0.mk Q_saf
          have q0 := port_cell blk0.out HA.out
          have q1 := blk_free ka blk0.out
          refine skip_ (w1 := w'.setCell ⟨P, ka, none⟩ (.slice (some ⟨g1, 0, none⟩) (ra.length + 1) cap1 : Value)) (by rfl) rfl ?_ ?_
          · go_simp
            try rfl
          refine hK.out _ _ ⟨K1, K2, g1, cap1, g2, cap2, m12_, m13_, m20_, m21_, (by rw [ha.out]; exact putSel_none (v := undef) rfl), cell_far cG.out (by simp; omega), cell_far cL0.out (by simp; omega), cell_far cL1.out (by simp; omega), cell_far cM0.out (by simp; omega), cell_far cM1.out (by simp; omega), fun h0_ => absurd ((up_self b 23).symm.trans h0_) (by decide), fun _ _ => port_set blk0.out haL, fun h0_ => absurd ((hoff 25 (by kernel_rfl)).symm.trans h0_) (by decide), fun h0_ => absurd ((hon 13 (by kernel_rfl)).symm.trans h0_) (by decide), fun _ h1_ => absurd ((hon 21 (by kernel_rfl)).symm.trans h1_) (by decide), fun _ => R2.out.store blk0.out, fun _ h1_ => absurd ((hon 13 (by kernel_rfl)).symm.trans h1_) (by decide), fun _ h1_ => absurd ((hon 21 (by kernel_rfl)).symm.trans h1_) (by decide), bel.out.setCell hPb _, Nat.le_trans siz.out (by simp [World.setCell]), saf.out.set blk0.out, Q_X12_, Q_X13_, Q_X20_, Q_X21_⟩
        refine steps_cons ?_ ?_
        · rintro b a w' ⟨K1, K2, g1, cap1, g2, cap2, m12_, m13_, m20_, m21_, ha, Q_cG, Q_cL0, Q_cL1, Q_cM0, Q_cM1, Q_blk0, Q_blk1, Q_blk2, Q_R0, Q_R1, Q_R2, Q_hK1, Q_hK2, Q_bel, Q_siz, Q_saf, Q_X12_, Q_X13_, Q_X20_, Q_X21_⟩ hb_ hon hoff
          refine ⟨_, rfl, fun K hK => ?_⟩
          have e57 : a.tmps[57]? = some ((.slice (some ⟨P, 0, none⟩) rows.length rows.length)) := by rw [ha]; exact putSel_on (e := (4, 57, (.slice (some ⟨P, 0, none⟩) rows.length rows.length))) 4 rfl rfl (hon 4 (by kernel_rfl)) rfl
          have e58 : a.tmps[58]? = some ((.int .i64 kb)) := by rw [ha]; exact putSel_on (e := (5, 58, (.int .i64 kb))) 5 rfl rfl (hon 5 (by kernel_rfl)) rfl
          replace ha := Aside0.mk ha
          have cG := Aside0.mk Q_cG
          have cL0 := Aside0.mk Q_cL0
          have cL1 := Aside0.mk Q_cL1
          have cM0 := Aside0.mk Q_cM0
          have cM1 := Aside0.mk Q_cM1
          have blk1 := Aside0.mk (Q_blk1 (hon 23 (by kernel_rfl)) (hoff 25 (by kernel_rfl)))
          have R2 := Aside0.mk (Q_R2 (hon 21 (by kernel_rfl)))
          have bel := Aside0.mk Q_bel
          have siz := Aside0.mk Q_siz
          have saf := Aside0.mk Q_saf
          refine value_ (w1 := w') (v := (.pointer (some ⟨P, kb, none⟩))) (by rfl) rfl ?_ ?_
          · go_simp
            (try simp only [i64_w])
            try rfl
          refine hK.out _ _ ⟨K1, K2, g1, cap1, g2, cap2, m12_, m13_, m20_, m21_, (by rw [ha.out]; exact putSel_upk 23 hb_ rfl rfl rfl), Q_cG, Q_cL0, Q_cL1, Q_cM0, Q_cM1, fun h0_ => absurd ((hon 23 (by kernel_rfl)).symm.trans h0_) (by decide), Q_blk1, fun h0_ => absurd ((hoff 25 (by kernel_rfl)).symm.trans h0_) (by decide), fun h0_ => absurd ((hon 13 (by kernel_rfl)).symm.trans h0_) (by decide), fun _ h1_ => absurd ((hon 21 (by kernel_rfl)).symm.trans h1_) (by decide), Q_R2, fun _ h1_ => absurd ((hon 13 (by kernel_rfl)).symm.trans h1_) (by decide), fun _ h1_ => absurd ((hon 21 (by kernel_rfl)).symm.trans h1_) (by decide), Q_bel, Q_siz, Q_saf, Q_X12_, Q_X13_, Q_X20_, Q_X21_⟩
        refine steps_cons ?_ ?_
        · rintro b a w' ⟨K1, K2, g1, cap1, g2, cap2, m12_, m13_, m20_, m21_, ha, Q_cG, Q_cL0, Q_cL1, Q_cM0, Q_cM1, Q_blk0, Q_blk1, Q_blk2, Q_R0, Q_R1, Q_R2, Q_hK1, Q_hK2, Q_bel, Q_siz, Q_saf, Q_X12_, Q_X13_, Q_X20_, Q_X21_⟩ hb_ hon hoff
          refine ⟨_, rfl, fun K hK => ?_⟩
          have e76 : a.tmps[76]? = some ((.pointer (some ⟨P, kb, none⟩))) := by rw [ha]; exact putSel_on (e := (24, 76, (.pointer (some ⟨P, kb, none⟩)))) 23 rfl rfl (hon 24 (by kernel_rfl)) rfl
          have e74 : a.tmps[74]? = some (m21_) := by rw [ha]; exact putSel_on (e := (21, 74, m21_)) 21 rfl rfl (hon 21 (by kernel_rfl)) rfl
          rw [Q_X21_ (hon 21 (by kernel_rfl))] at e74
          replace ha := Aside0.mk ha
          have cG := Aside0.mk Q_cG
          have cL0 := Aside0.mk Q_cL0
          have cL1 := Aside0.mk Q_cL1
          have cM0 := Aside0.mk Q_cM0
          have cM1 := Aside0.mk Q_cM1
          have blk1 := Aside0.mk (Q_blk1 (hon 23 (by kernel_rfl)) hb_)
          have R2 := Aside0.mk (Q_R2 (hon 21 (by kernel_rfl)))
          have bel := Aside0.mk Q_bel
          have siz := Aside0.mk Q_siz
          have saf := Aside0.mk Q_saf
          have HVB : Hid ((vs.set ka (.slice (some ⟨g1, 0, none⟩) (ra.length + 1) cap1 : Value))[kb]? = some vb) := by unfold Hid; rw [List.getElem?_set_ne hne1]; exact Hb.out
          have q0 := port_cell blk1.out HVB.out
          have q1 := blk_free kb blk1.out
          refine skip_ (w1 := w'.setCell ⟨P, kb, none⟩ (.slice (some ⟨g2, 0, none⟩) (rb.length + 1) cap2 : Value)) (by rfl) rfl ?_ ?_
          · go_simp
            try rfl
          refine hK.out _ _ ⟨K1, K2, g1, cap1, g2, cap2, m12_, m13_, m20_, m21_, (by rw [ha.out]; exact putSel_none (v := undef) rfl), cell_far cG.out (by simp; omega), cell_far cL0.out (by simp; omega), cell_far cL1.out (by simp; omega), cell_far cM0.out (by simp; omega), cell_far cM1.out (by simp; omega), fun h0_ => absurd ((hon 23 (by kernel_rfl)).symm.trans h0_) (by decide), fun _ h1_ => absurd ((up_self b 25).symm.trans h1_) (by decide), fun _ => port_set blk1.out (by simpa using hbL), fun h0_ => absurd ((hon 13 (by kernel_rfl)).symm.trans h0_) (by decide), fun _ h1_ => absurd ((hon 21 (by kernel_rfl)).symm.trans h1_) (by decide), fun _ => R2.out.store blk1.out, fun _ h1_ => absurd ((hon 13 (by kernel_rfl)).symm.trans h1_) (by decide), fun _ h1_ => absurd ((hon 21 (by kernel_rfl)).symm.trans h1_) (by decide), bel.out.setCell hPb _, Nat.le_trans siz.out (by simp [World.setCell]), saf.out.set blk1.out, Q_X12_, Q_X13_, Q_X20_, Q_X21_⟩
        exact steps_nil
      · rintro b a w' hall ⟨K1, K2, g1, cap1, g2, cap2, m12_, m13_, m20_, m21_, ha, Q_cG, Q_cL0, Q_cL1, Q_cM0, Q_cM1, Q_blk0, Q_blk1, Q_blk2, Q_R0, Q_R1, Q_R2, Q_hK1, Q_hK2, Q_bel, Q_siz, Q_saf, Q_X12_, Q_X13_, Q_X20_, Q_X21_⟩
        clear R0 bel blk0 cG cL0 cL1 cM0 cM1 saf siz
        have hb0_ := hall 0 (by kernel_rfl)
        have hb1_ := hall 1 (by kernel_rfl)
        have hb2_ := hall 2 (by kernel_rfl)
        have hb3_ := hall 3 (by kernel_rfl)
        have hb4_ := hall 4 (by kernel_rfl)
        have hb5_ := hall 5 (by kernel_rfl)
        have hb6_ := hall 6 (by kernel_rfl)
        have hb7_ := hall 7 (by kernel_rfl)
        have hb8_ := hall 8 (by kernel_rfl)
        have hb9_ := hall 9 (by kernel_rfl)
        have hb10_ := hall 10 (by kernel_rfl)
        have hb11_ := hall 11 (by kernel_rfl)
        have hb12_ := hall 12 (by kernel_rfl)
        have hb13_ := hall 13 (by kernel_rfl)
        have hb14_ := hall 14 (by kernel_rfl)
        have hb15_ := hall 15 (by kernel_rfl)
        have hb16_ := hall 16 (by kernel_rfl)
        have hb17_ := hall 17 (by kernel_rfl)
        have hb18_ := hall 18 (by kernel_rfl)
        have hb19_ := hall 19 (by kernel_rfl)
        have hb20_ := hall 20 (by kernel_rfl)
        have hb21_ := hall 21 (by kernel_rfl)
        have hb22_ := hall 22 (by kernel_rfl)
        have hb23_ := hall 23 (by kernel_rfl)
        have hb24_ := hall 24 (by kernel_rfl)
        have hb25_ := hall 25 (by kernel_rfl)
        subst ha
        obtain rfl := Q_X12_ hb12_
        obtain rfl := Q_X13_ hb13_
        obtain rfl := Q_X20_ hb20_
        obtain rfl := Q_X21_ hb21_
        simp only [putSel, hb0_, hb1_, hb2_, hb3_, hb4_, hb5_, hb6_, hb7_, hb8_, hb9_, hb10_, hb11_, hb12_, hb13_, hb14_, hb15_, hb16_, hb17_, hb18_, hb19_, hb20_, hb21_, hb22_, hb23_, hb24_, hb25_, if_true, Act.put, List.setIfInBounds_toArray, List.set_cons_zero, List.set_cons_succ]
        have cG := Aside0.mk Q_cG
        clear Q_cG
        have cL0 := Aside0.mk Q_cL0
        clear Q_cL0
        have cL1 := Aside0.mk Q_cL1
        clear Q_cL1
        have cM0 := Aside0.mk Q_cM0
        clear Q_cM0
        have cM1 := Aside0.mk Q_cM1
        clear Q_cM1
        clear Q_blk0
        clear Q_blk1
        have blk2 := Aside0.mk (Q_blk2 hb25_)
        clear Q_blk2
        clear Q_R0
        clear Q_R1
        have R2 := Aside0.mk (Q_R2 hb21_)
        clear Q_R2
        clear Q_hK1
        clear Q_hK2
        have bel := Aside0.mk Q_bel
        clear Q_bel
        have siz := Aside0.mk Q_siz
        clear Q_siz
        have saf := Aside0.mk Q_saf
        clear Q_saf
        clear hall hb0_ hb1_ hb2_ hb3_ hb4_ hb5_ hb6_ hb7_ hb8_ hb9_ hb10_ hb11_ hb12_ hb13_ hb14_ hb15_ hb16_ hb17_ hb18_ hb19_ hb20_ hb21_ hb22_ hb23_ hb24_ hb25_
        go_end0
        exact ⟨rfl, ⟨_, by rw [hE.out, HGa.out, HGb.out]; exact ⟨blk2.out, R2.out, hPb⟩⟩, HBW.out.trans bel.out, HSFW.out.trans saf.out⟩
end Go.Proofs.Ythapikakneikbaa
