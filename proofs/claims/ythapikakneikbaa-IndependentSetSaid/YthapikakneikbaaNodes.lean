/-
  selfstabworld.Net.nodes: a graph without links, with different identifiers.
-/
import Derived.Test.YthapikakneikbaaLinked
namespace Go.Proofs.Ythapikakneikbaa
open Go.RowKit

/-- The identifier id, or the next one behind it that is not on the list. -/
def freshId (ids : List Int) : Nat → Int → Int
  | 0, id => id
  | f + 1, id => if id ∈ ids then freshId ids f ((id + 1) % 256) else id
def nodeId (raw : List Int) (ids : List Int) (v : Nat) : Int := freshId ids 300 (within (at0 raw v) 256)
/-- The identifiers of v nodes. -/
def nodeIds (raw : List Int) : Nat → List Int
  | 0 => []
  | v + 1 => nodeIds raw v ++ [nodeId raw (nodeIds raw v) v]
theorem nodeIds_length (raw : List Int) (v : Nat) : (nodeIds raw v).length = v := by
  induction v with
  | zero => rfl
  | succ v ih => simp [nodeIds, ih]
/-- The k-th identifier behind id. -/
def shift (id : Int) (k : Nat) : Int := (id + k) % 256
theorem shift_step (id : Int) (k : Nat) : (shift id k + 1) % 256 = shift id (k + 1) := by unfold shift; push_cast; omega
theorem shift_inj {id : Int} {j k : Nat} (hj : j < 256) (hk : k < 256) (h : shift id j = shift id k) : j = k := by unfold shift at h; omega
theorem fresh_shift {ids : List Int} {id : Int} {k : Nat} (h : ∀ j, j < k → shift id j ∈ ids) (h0 : shift id 0 = id) : ∀ f, k ≤ f → freshId ids f id = freshId ids (f - k) (shift id k) := by
  induction k with
  | zero => intro f _; rw [h0]; rfl
  | succ k ih =>
    intro f hf
    rw [ih (fun j hj => h j (by omega)) f (by omega)]
    obtain ⟨m, hm⟩ : ∃ m, f - k = m + 1 := ⟨f - k - 1, by omega⟩
    rw [hm, show f - (k + 1) = m from by omega]
    rw [freshId, if_pos (h k (by omega)), shift_step]
/-- So many identifiers that follow each other are on the list: then it is that long. -/
theorem shift_many {ids : List Int} {id : Int} {k : Nat} (hk : k ≤ 256) (h : ∀ j, j < k → shift id j ∈ ids) : k ≤ ids.length := by
  have h1 : ((List.range k).map (shift id)).Nodup := by
    rw [List.nodup_iff_pairwise_ne, List.pairwise_map]
    refine List.Pairwise.imp_of_mem ?_ (List.nodup_iff_pairwise_ne.1 List.nodup_range)
    intro a b ha hb hne e
    exact hne (shift_inj (by have := List.mem_range.1 ha; omega) (by have := List.mem_range.1 hb; omega) e)
  have h2 := List.Nodup.length_le_of_subset h1 (l₂ := ids) fun x hx => by
    obtain ⟨j, hj, rfl⟩ := List.mem_map.1 hx
    exact h j (List.mem_range.1 hj)
  simpa using h2
theorem shift_zero {id : Int} (h : 0 ≤ id ∧ id < 256) : shift id 0 = id := by unfold shift; omega
theorem shift_bd (id : Int) (k : Nat) : 0 ≤ shift id k ∧ shift id k < 256 := by unfold shift; omega
/-- Where the search ends. -/
theorem fresh_end {ids : List Int} {id : Int} {k : Nat} (hk : k < 300) (h0 : shift id 0 = id) (h : ∀ j, j < k → shift id j ∈ ids) (hn : shift id k ∉ ids) : freshId ids 300 id = shift id k := by
  rw [fresh_shift h h0 300 (by omega)]
  obtain ⟨m, hm⟩ : ∃ m, 300 - k = m + 1 := ⟨300 - k - 1, by omega⟩
  rw [hm, freshId, if_neg hn]
/-- Some identifier is free. -/
theorem fresh_is {ids : List Int} {id : Int} (hl : ids.length ≤ 200) (h0 : 0 ≤ id ∧ id < 256) : ∃ k, k ≤ ids.length ∧ (∀ j, j < k → shift id j ∈ ids) ∧ shift id k ∉ ids ∧ freshId ids 300 id = shift id k := by
  have : ∃ k, k ≤ ids.length ∧ shift id k ∉ ids := Classical.byContradiction fun hc => by
    have : ∀ j, j < ids.length + 1 → shift id j ∈ ids := fun j hj => Classical.byContradiction fun h => hc ⟨j, by omega, h⟩
    have := shift_many (k := ids.length + 1) (by omega) this
    omega
  obtain ⟨k0, hk0, hn0⟩ := this
  have key : ∀ n, (∀ j, j < n → shift id j ∈ ids) ∨ ∃ k, k < n ∧ (∀ j, j < k → shift id j ∈ ids) ∧ shift id k ∉ ids := by
    intro n
    induction n with
    | zero => exact .inl fun j hj => absurd hj (Nat.not_lt_zero _)
    | succ n ih =>
      rcases ih with h | ⟨k, h1, h2, h3⟩
      · by_cases hm : shift id n ∈ ids
        · refine .inl fun j hj => ?_
          by_cases e : j = n
          · rw [e]; exact hm
          · exact h j (by omega)
        · exact .inr ⟨n, by omega, h, hm⟩
      · exact .inr ⟨k, by omega, h2, h3⟩
  rcases key (k0 + 1) with h | ⟨k, h1, h2, h3⟩
  · exact absurd (h k0 (by omega)) hn0
  · exact ⟨k, by omega, h2, h3, fresh_end (by omega) (shift_zero h0) h2 h3⟩
theorem nodeIds_ok (raw : List Int) (v : Nat) (hv : v ≤ 100) : (∀ x ∈ nodeIds raw v, 0 ≤ x ∧ x < 256) ∧ (nodeIds raw v).Nodup := by
  induction v with
  | zero => simp [nodeIds]
  | succ v ih =>
    obtain ⟨h1, h2⟩ := ih (by omega)
    obtain ⟨k, _, _, hn, hf⟩ := fresh_is (ids := nodeIds raw v) (by rw [nodeIds_length]; omega) (within_bd (v := at0 raw v) (m := 256) (by omega))
    have he : nodeId raw (nodeIds raw v) v = shift (within (at0 raw v) 256) k := hf
    refine ⟨fun x hx => ?_, ?_⟩
    · rcases List.mem_append.1 hx with hx | hx
      · exact h1 x hx
      · rw [List.mem_singleton.1 hx, he]; exact shift_bd _ _
    · unfold nodeIds
      rw [List.nodup_append]
      refine ⟨h2, by simp, fun a ha b hb e => hn ?_⟩
      rw [List.mem_singleton.1 hb, he] at e
      exact e ▸ ha

def nodeCount (N : Int) (most : Int) : Nat := (1 + within (wrap64 (N - 1)) most).toNat
theorem nodeCount_bd {N most : Int} (hm : 1 ≤ most) : 1 ≤ nodeCount N most ∧ (nodeCount N most : Int) ≤ most ∧ (nodeCount N most : Int) = 1 + within (wrap64 (N - 1)) most := by
  have := within_bd (v := wrap64 (N - 1)) hm
  unfold nodeCount
  omega
abbrev nilRow : Value := .slice none 0 0
theorem infoRow : (Try.prog.info? 52).map (fun i => (i.zero, i.size, i.bytes)) = some (some nilRow, 1, 24) := by kernel_rfl
/-- What the call of nodes leaves: the identifiers' row, and block P with rows that hold no link yet. -/
def NodesPost (base : Nat) (raw : List Int) (n : Nat) (w w' : World) (e : Ending) : Prop :=
  ∃ vI P, e = .returned (.agg #[vI, .slice (some ⟨P, 0, none⟩) n n]) ∧ w'.ownsRow base 3 1 vI n (icells (nodeIds raw n)) ∧ PortsAt w' base P (List.replicate n nilRow) (List.replicate n []) ∧ Below base w w'
theorem rows_none (w : World) (base n : Nat) : Rows w base (List.replicate n nilRow) (List.replicate n []) := by
  refine ⟨by simp, ?_, ?_, ?_⟩
  · intro u v ps h1 h2
    obtain rfl : v = nilRow := by have := List.mem_of_getElem? h1; simp at this; exact this.2
    obtain rfl : ps = [] := by have := List.mem_of_getElem? h2; simp at this; exact this.2
    exact World.ownsRow_nil w base _ 2
  · intro u u' v v' h1 h2 _
    obtain rfl : v = nilRow := by have := List.mem_of_getElem? h1; simp at this; exact this.2
    exact .inl rfl
  · intro u v ps h1 _ _
    have := List.mem_of_getElem? h1; simp at this; exact this.2

/-- What holds at the head of the loop over the nodes. -/
structure NodesAt (w wr : World) (cX : Array Value) (G P n v : Nat) (raw : List Int) (vI : Value) : Prop where
  bX : wr.heap[w.heap.size]? = some (.cells cX 24 (0, 0))
  bR : wr.heap[w.heap.size + 1]? = some (.cells #[nilRow, nilRow] 27 (0, 0))
  bG : wr.heap[G]? = some (.cells #[vI, .slice (some ⟨P, 0, none⟩) n n] 27 (0, 0))
  own : wr.ownsRow w.heap.size 3 1 vI v (icells (nodeIds raw v))
  pa : PortsAt wr w.heap.size P (List.replicate n nilRow) (List.replicate n [])
  bel : Below w.heap.size w wr
  ltG : w.heap.size + 1 < G
/-- Behind the append, g is as it was. -/
theorem NodesAt.varG {w wr w1 : World} {cX : Array Value} {G P n v : Nat} {raw : List Int} {vI : Value} {o : Obj} (h : NodesAt w wr cX G P n v raw vI) (hg : (wr.alloc o).grownBy w1 vI.ownBlock) :
    w1.heap[G]? = some (.cells #[vI, .slice (some ⟨P, 0, none⟩) n n] 27 (0, 0)) :=
  blk_keep (blk_alloc h.bG o) hg (own_ne (h.own.alloc o) (blk_alloc h.bG o) (by decide))
/-- An identifier has been appended, and the variable g's field stored. -/
theorem NodesAt.step {w wr w1 : World} {cX : Array Value} {G P n v : Nat} {raw : List Int} {vI v' : Value} {o : Obj} (h : NodesAt w wr cX G P n v raw vI) (ho : w1.ownsRow w.heap.size 3 1 v' (v + 1) (icells (nodeIds raw (v + 1)))) (hg : (wr.alloc o).grownBy w1 vI.ownBlock) :
    NodesAt w (w1.setCell ⟨G, 0, none⟩ v') cX G P n (v + 1) raw v' := by
  have hown := h.own.alloc o
  have k1 : ∀ {k : Nat} {t : TypeId} {cs : Array Value} {fr : Nat × Nat}, wr.heap[k]? = some (.cells cs t fr) → t ≠ 3 → w1.heap[k]? = some (.cells cs t fr) := fun hb hne => blk_keep (blk_alloc hb o) hg (own_ne hown (blk_alloc hb o) hne)
  have hG1 := k1 h.bG (by decide)
  have hneX : w.heap.size ≠ G := by have := h.ltG; omega
  have hneR : w.heap.size + 1 ≠ G := by have := h.ltG; omega
  have hneP : P ≠ G := fun e => by
    have h1 := h.pa.blk
    rw [e, h.bG] at h1
    injection h1 with h1
    injection h1 with _ h1
    exact absurd h1 (by decide)
  refine ⟨blk_far (k1 h.bX (by decide)) hneX, blk_far (k1 h.bR (by decide)) hneR, ?_, ?_, ?_, ?_, h.ltG⟩
  · rw [blk_set 0 v' hG1 (by simp)]
    rfl
  · exact own_keep ho (grown_set _ _ _) fun k hk => by
      cases hk
      exact own_ne ho hG1 (by decide)
  · exact ⟨blk_far (k1 h.pa.blk (by decide)) hneP, rows_none _ _ _, h.pa.hP⟩
  · have hb1 : Below w.heap.size w w1 := (h.bel.alloc h.bel.size o).grown hg (by have := h.bel.size; simp; omega) fun k hk => (own_typed0 h.own k hk).1
    exact hb1.setCell (by have := h.ltG; simp; omega) _

set_option maxHeartbeats 4000000 in
set_option maxRecDepth 100000 in
theorem nodes_calls (w : World) (N : Int) (vL vW : Value) (AI : Option Addr) (cI : Nat) (raw : List Int) (hraw : (Kd.int .i64).C w AI raw) (ap bk : Bool) (most : Int) (hm1 : 1 ≤ most) (hm2 : most ≤ 100) :
    Calls Try.prog 69 #[.agg #[.int .i64 N, vL, vW, .slice AI raw.length cI, .bool ap, .bool bk], .int .i64 most] w fun e w' => NodesPost w.heap.size raw (nodeCount N most) w w' e := by
  obtain ⟨i0, hi0, hz0, hz1, hz2⟩ := info_parts infoRow
  obtain ⟨j0, hj0, jz0, jz1, jz2⟩ := info_parts infoInt
  obtain ⟨hn1, hn2, hn3⟩ := nodeCount_bd (N := N) hm1
  have HRW := Lib.hid hraw
  clear hraw
  go_enter Try.func69, Try.ntmps69
  go_wp2_with fail
  refine (within_calls _ _ _ (by omega)).mono ?_
  rintro e w1 ⟨rfl, rfl⟩
  have hw := within_bd (v := wrap64 (N - 1)) hm1
  generalize within (wrap64 (N - 1)) most = r at hn3 hw
  generalize hnc : nodeCount N most = n at hn1 hn2 hn3
  have HNC := Lib.hid hnc
  clear hnc
  have HN3 := Lib.hid hn3
  have hnr : (n : Int) ≤ 1 + r := by omega
  have hrn : 1 + r ≤ (n : Int) := by omega
  clear hn3
  go_wp2_with (at_make; go_must (refine wpList_make_full _ rfl _ _ 25 rfl w.heap.size 52 i0 _ 1 Try.underlying25 hi0 hz0 hz1 _ _ _ _ n rfl rfl (by have := HN3.out; omega) (by have := HN3.out; omega) (by rw [hz2]; omega) (by unfold maxLen; omega) (by simp; omega) ?_); intro w2 hown2 hgr2)
  have hN0 : NodesAt w (w2.alloc (.cells #[nilRow, .slice (some ⟨w.heap.size + 1 + 1, 0, none⟩) n n] 27)) #[.int .i64 N, vL, vW, .slice AI raw.length cI, .bool ap, .bool bk] w2.heap.size (w.heap.size + 1 + 1) n 0 raw nilRow := by
    have hb0 := ((Below.refl w.heap.size w).alloc (Nat.le_refl _) (.cells #[.int .i64 N, vL, vW, .slice AI raw.length cI, .bool ap, .bool bk] 24)).alloc (by simp) (.cells #[nilRow, nilRow] 27)
    have hz := hgr2.size
    simp only [World.size_alloc] at hz
    have hP : w2.heap[w.heap.size + 1 + 1]? = some (.cells (List.replicate n nilRow).toArray 52 (0, 0)) := by
      rcases hown2.2 with ⟨h0, _⟩ | ⟨g, cap, cur, hv, _, hh, h1, h2, h3, h4⟩
      · simp at h0
      · simp only [Value.slice.injEq, Option.some.injEq, Addr.mk.injEq] at hv
        obtain ⟨⟨hv1, _, _⟩, _, hv2⟩ := hv
        simp only [World.size_alloc] at hv1
        subst hv1
        subst hv2
        rw [hh]
        have hcur : cur.toList = List.replicate n nilRow := by
          have e1 : nilRow.cells = #[nilRow] := rfl
          rw [e1, Nat.mul_one, toList_madeCells_one] at h4
          rw [← h4, List.take_of_length_le (by rw [Array.length_toList]; omega)]
        rw [← hcur]
    have hPs : w.heap.size + 1 + 1 < w2.heap.size := blk_lt hP
    refine ⟨?_, ?_, blk_new rfl, World.ownsRow_nil _ _ _ 1, ⟨blk_alloc hP _, rows_none _ _ _, by omega⟩, ((hb0.grown hgr2 (by simp; omega) (by simp)).alloc (by omega) _), by omega⟩
    · exact blk_alloc (blk_keep (blk_alloc (blk_new rfl) _) hgr2 (by simp)) _
    · exact blk_alloc (blk_keep (blk_new (by simp)) hgr2 (by simp)) _
  have HN0 := Lib.hid hN0
  have hG := hN0.ltG
  clear hown2 hgr2 hN0
  generalize w2.heap.size = G at HN0 hG
  go_loopw [7] (fun i wr => ∃ (v : Nat) (vI : Value), v ≤ n ∧ i = .int .i64 v ∧ NodesAt w wr #[.int .i64 N, vL, vW, .slice AI raw.length cI, .bool ap, .bool bk] G (w.heap.size + 1 + 1) n v raw vI) (fun i _ => n - (intOf i).toNat)
  case atStart => exact ⟨0, nilRow, Nat.zero_le _, rfl, HN0.out⟩
  case round =>
    obtain ⟨v, vI, hv, rfl, hN⟩ := hrel
    have HN := Lib.hid hN
    clear hN HN0
    have hrI := ints_reads (xs := nodeIds raw v) (by rw [nodeIds_length]; exact HN.out.own)
    obtain ⟨A1, c1, hvI, hl1, hC1⟩ := hrI
    rw [nodeIds_length] at hvI hl1
    subst hvI
    have HC1 := Lib.hid hC1
    clear hC1
    by_cases hlt : v < n
    · have cX := blk_cell (j := 3) (v := .slice AI raw.length cI) HN.out.bX rfl
      have cG0 := blk_cell (j := 0) (v := .slice A1 v c1) HN.out.bG rfl
      have fG0 := blk_free 0 HN.out.bG
      have hzw := HN.out.bel.size
      have hGw := blk_lt HN.out.bG
      go_wp2_with fail
      refine (at_calls _ _ _ raw (Kd.C_below HRW.out HN.out.bel) _ (by omega)).mono ?_
      rintro e w3 ⟨rfl, rfl⟩
      go_wp2_with fail
      refine (within_calls _ _ _ (by omega)).mono ?_
      rintro e w4 ⟨rfl, rfl⟩
      have hid := within_bd (v := at0 raw (v : Int)) (m := 256) (by omega)
      have HID : Hid (nodeId raw (nodeIds raw v) v = freshId (nodeIds raw v) 300 (within (at0 raw (v : Int)) 256)) := rfl
      generalize within (at0 raw (v : Int)) 256 = q at hid HID
      have hln := nodeIds_length raw v
      go_wp2_with fail
      obtain ⟨wo, rfl⟩ : ∃ wo : World, wo = wr := ⟨_, rfl⟩
      go_loopg [8, 9] ((201 - 0) * (v + 2) + v) (fun k a b wq => ∃ (s u : Nat), k = (201 - s) * (v + 2) + (v - u) ∧ s ≤ v ∧ u ≤ v ∧ a = .int .i64 (shift q s) ∧ b = .int .i64 u ∧ (∀ j, j < s → shift q j ∈ nodeIds raw v) ∧ (∀ t, t < u → (nodeIds raw v)[t]? ≠ some (shift q s)) ∧ wo = wq)
      case atStart => exact ⟨0, 0, rfl, Nat.zero_le _, Nat.zero_le _, by rw [shift_zero hid], rfl, fun _ h => absurd h (Nat.not_lt_zero _), fun _ h => absurd h (Nat.not_lt_zero _), rfl⟩
      case round =>
        obtain ⟨s, u, hgk, hs, hu, rfl, rfl, hin, hne, rfl⟩ := hrel
        have HIN := Lib.hid hin
        have HNE := Lib.hid hne
        have HGK := Lib.hid hgk
        have hsb := shift_bd q s
        have HSS := Lib.hid (shift_step q s)
        have HQ : Hid (∃ t, t = shift q s) := ⟨_, rfl⟩
        clear hin hne hgk
        by_cases huv : u < v
        · obtain ⟨ad2, hA2, hc2⟩ := Kd.at_int HC1.out u (by omega)
          cases hA2
          have HU : Hid ((nodeIds raw v)[u]? = some (nodeIds raw v)[u]) := List.getElem?_eq_getElem (by omega)
          generalize (nodeIds raw v)[u] = y at hc2 HU
          have huv' : (u : Int) < (v : Int) := by omega
          by_cases hy : y = shift q s
          · have t1 : (y == shift q s) = true := by simp [hy]
            have HMEM : Hid (shift q s ∈ nodeIds raw v) := by unfold Hid; rw [← hy]; exact List.mem_of_getElem? HU.out
            have HIN2 : Hid (∀ j, j < s + 1 → shift q j ∈ nodeIds raw v) := fun j hj => by
              by_cases e : j = s
              · rw [e]; exact HMEM.out
              · exact HIN.out j (by omega)
            have hs2 := shift_many (k := s + 1) (by omega) HIN2.out
            rw [nodeIds_length] at hs2
            clear hy
            have HMEM2 : Hid (shift q (s + 1) = (shift q s + 1) % 256) := HSS.out.symm
            clear HSS HMEM HNE
            generalize shift q s = z at hsb t1 HMEM2
            go_wp2_with fail
            go_roundg ((201 - (s + 1)) * (v + 2) + v)
            case rel => exact ⟨s + 1, 0, rfl, by omega, Nat.zero_le _, by rw [HMEM2.out], rfl, HIN2.out, fun _ h => absurd h (Nat.not_lt_zero _), rfl⟩
            case measure =>
              rw [HGK.out, show 201 - s = 201 - (s + 1) + 1 from by omega, Nat.succ_mul]
              omega
          · have t1 : (y == shift q s) = false := by simp [hy]
            have HNE2 : Hid (∀ t, t < u + 1 → (nodeIds raw v)[t]? ≠ some (shift q s)) := fun t ht => by
              by_cases e : t = u
              · rw [e, HU.out]; simpa using hy
              · exact HNE.out t (by omega)
            clear hy
            generalize hz : shift q s = z at hsb HSS t1
            have HZ := Lib.hid hz
            clear hz
            go_wp2_with fail
            go_roundg ((201 - s) * (v + 2) + (v - (u + 1)))
            case rel => exact ⟨s, u + 1, rfl, hs, by omega, by rw [HZ.out], rfl, HIN.out, HNE2.out, rfl⟩
            case measure =>
              rw [HGK.out]
              omega
        · have huv' : ¬ (u : Int) < (v : Int) := by omega
          have HEND : Hid (nodeId raw (nodeIds raw v) v = shift q s) := by
            rw [Hid, HID.out]
            refine fresh_end (by omega) (shift_zero (by omega)) HIN.out fun hm => ?_
            obtain ⟨t, ht, e⟩ := List.mem_iff_getElem.1 hm
            exact HNE.out t (by omega) (by rw [List.getElem?_eq_getElem ht, e])
          clear HSS HIN HNE
          generalize shift q s = z at hsb HEND
          go_wp2_with (at_builtin; go_must (refine wpList_append_own_at _ rfl _ _ 22 rfl w.heap.size 3 j0 _ 1 8 Try.underlying22 hj0 jz0 jz1 jz2 rfl (by decide) _ _ _ rfl (HN.out.own.alloc _) ⟨wo.heap.size, 0, none⟩ 1 1 [.int .i64 z] rfl rfl (cell_one_new _ _ _) (ints_oneCell .i64 [z]) (by unfold maxLen; omega) (by omega) (by simp; omega) ?_); intro v2 w5 hown5 hgr5 hnil5 hat5; obtain ⟨g2, c2, rfl, _, _⟩ := hown5.form (by omega); have bG5 := HN.out.varG hgr5; have fG5 := blk_free 0 bG5; have cG5 := blk_cell (j := 0) (v := .slice A1 v c1) bG5 rfl)
          go_roundw
          case rel => exact ⟨v + 1, _, by omega, rfl, HN.out.step (by rw [nodeIds, HEND.out]; simpa [icells] using hown5) hgr5⟩
          case measure => simp [intOf]; omega
    · have HE := Lib.hid (show v = n by omega)
      have cG0 := blk_cell (j := 0) (v := .slice A1 v c1) HN.out.bG rfl
      have cG1 := blk_cell (j := 1) (v := .slice (some ⟨w.heap.size + 1 + 1, 0, none⟩) n n) HN.out.bG rfl
      have cR0 := blk_cell (j := 0) (v := nilRow) HN.out.bR rfl
      have cR1 := blk_cell (j := 1) (v := nilRow) HN.out.bR rfl
      have fR0 := blk_free 0 HN.out.bR
      have fR1 := blk_free 1 HN.out.bR
      go_wp2_with fail
      refine bodyPost_ret (v := .agg #[.slice A1 v c1, .slice (some ⟨w.heap.size + 1 + 1, 0, none⟩) n n]) (by simp [results, Try.results69, go_sem, cR0, cR1]) rfl ?_
      rw [HNC.out]
      have HL := HE.out
      subst HL
      have hneG : G ≠ w.heap.size + 1 := by omega
      have hb1 := blk_set 0 (.slice A1 v c1) HN.out.bR (by simp)
      have ho1 := own_keep HN.out.own (grown_set wr ⟨w.heap.size + 1, 0, none⟩ (.slice A1 v c1)) (fun k hk => by cases hk; exact own_ne HN.out.own HN.out.bR (by decide))
      have ho2 := own_keep ho1 (grown_set _ ⟨w.heap.size + 1, 1, none⟩ (.slice (some ⟨w.heap.size + 1 + 1, 0, none⟩) v v)) (fun k hk => by cases hk; exact own_ne ho1 hb1 (by decide))
      exact ⟨.slice A1 v c1, w.heap.size + 1 + 1, rfl, ho2, ⟨blk_far (blk_far HN.out.pa.blk (by simp)) (by simp), rows_none _ _ _, HN.out.pa.hP⟩, (HN.out.bel.setCell (by simp) _).setCell (by simp) _⟩
end Go.Proofs.Ythapikakneikbaa
