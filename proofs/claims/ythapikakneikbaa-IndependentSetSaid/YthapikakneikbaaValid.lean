/-
  graph.Valid: what the call returns, for every graph.
-/
import Derived.Test.YthapikakneikbaaMaps
namespace Go.Proofs.Ythapikakneikbaa
open Go.RowKit Go.Maps

/-! ### kinds -/
def kLink : Kd Link := Kd.iso (Kd.pair (Kd.int .i64) (Kd.int .i64)) (fun l => (l.to_, l.wt))
theorem at_link {w : World} {A : Option Addr} {xs : List Link} (h : kLink.C w A xs) (j : Nat) (hj : j < xs.length) : ∃ ad, A = some ad ∧ w.cell? (ad.add (j * 2)) = some (.int .i64 xs[j].to_) ∧ w.cell? ⟨(ad.add (j * 2)).block, (ad.add (j * 2)).off + 1, none⟩ = some (.int .i64 xs[j].wt) := by
  obtain ⟨ad, c, e, hK, hc⟩ := Kd.C_at h j hj
  obtain ⟨_, _, rfl, rfl, rfl⟩ := hK
  refine ⟨ad, e, hc 0 _ rfl, ?_⟩
  rw [← add_field _ _ 1 (by omega)]
  exact hc 1 _ rfl
/-- The two slices of a graph. -/
structure IsGraph (w : World) (A0 : Option Addr) (c0 : Nat) (A1 : Option Addr) (c1 : Nat) (g : Graph) : Prop where
  ids : (Kd.int .i64).C w A0 g.ids
  idc : g.ids.length ≤ c0
  ports : kLink.slice.C w A1 g.ports
  prc : g.ports.length ≤ c1
theorem IsGraph.keep {w w1 : World} {A0 c0 A1 c1} {g : Graph} (h : IsGraph w A0 c0 A1 c1 g) (hk : Keeps w w1) : IsGraph w1 A0 c0 A1 c1 g := ⟨Kd.C_keep h.ids hk, h.idc, Kd.C_keep h.ports hk, h.prc⟩
theorem IsGraph.below {w w1 : World} {A0 c0 A1 c1} {g : Graph} (h : IsGraph w A0 c0 A1 c1 g) (hb : Below w.heap.size w w1) : IsGraph w1 A0 c0 A1 c1 g := h.keep (keeps_of hb)

theorem valid_no {g : Graph} (h : ¬ (1 ≤ g.ports.length ∧ g.ports.length ≤ 24 ∧ g.ids.length = g.ports.length)) : g.valid = false := by
  cases hv : g.valid with
  | false => rfl
  | true => exact absurd ((valid_iff g).1 hv).1 h

set_option maxHeartbeats 1000000 in
theorem valid_early (w : World) (A0 : Option Addr) (c0 : Nat) (A1 : Option Addr) (c1 : Nat) (g : Graph) (h : ¬ (1 ≤ g.ports.length ∧ g.ports.length ≤ 24 ∧ g.ids.length = g.ports.length)) :
    Calls Try.prog 80 #[.agg #[.slice A0 g.ids.length c0, .slice A1 g.ports.length c1]] w fun e w' => e = .returned (.bool g.valid) ∧ Below w.heap.size w w' := by
  have HV := Lib.hid (valid_no h)
  by_cases h1 : g.ports.length < 1
  · go_enter Try.func80, Try.ntmps80
    go_wp2_with fail
    go_ret
    exact ⟨by rw [HV.out]; rfl, (Below.refl _ _).alloc (Nat.le_refl _) _⟩
  · by_cases h2 : 24 < g.ports.length
    · go_enter Try.func80, Try.ntmps80
      go_wp2_with fail
      go_ret
      exact ⟨by rw [HV.out]; rfl, (Below.refl _ _).alloc (Nat.le_refl _) _⟩
    · have h3 : ¬ g.ids.length = g.ports.length := fun e => h ⟨by omega, by omega, e⟩
      have h3b : ((g.ids.length : Int) != (g.ports.length : Int)) = true := by rw [bne_iff_ne]; omega
      clear h h3
      go_enter Try.func80, Try.ntmps80
      go_wp2_with fail
      go_ret
      exact ⟨by rw [HV.out]; rfl, (Below.refl _ _).alloc (Nat.le_refl _) _⟩

theorem ids_no {g : Graph} (h : ¬ ((∀ x ∈ g.ids, okID x = true) ∧ g.ids.Nodup)) : g.valid = false := by
  cases hv : g.valid with
  | false => rfl
  | true => exact absurd ⟨((valid_iff g).1 hv).2.1, ((valid_iff g).1 hv).2.2.1⟩ h
/-- What holds of the identifiers behind k rounds. -/
def IdsTo (g : Graph) (k : Nat) : Prop := (∀ x ∈ g.ids.take k, okID x = true) ∧ (g.ids.take k).Nodup
theorem idsTo_bad {g : Graph} {k : Nat} (hk : k < g.ids.length) (h : okID g.ids[k] = false ∨ g.ids[k] ∈ g.ids.take k) : g.valid = false := by
  refine ids_no fun ⟨h1, h2⟩ => ?_
  rcases h with h | h
  · rw [h1 _ (List.getElem_mem hk)] at h; cases h
  · obtain ⟨j, hj, e⟩ := List.mem_take_iff_getElem.1 h
    have := (List.nodup_iff_pairwise_ne.1 h2)
    exact absurd e ((List.pairwise_iff_getElem.1 this) j k (by omega) hk (by omega))
theorem idsTo_step {g : Graph} {k : Nat} (hk : k < g.ids.length) (h : IdsTo g k) (h1 : okID g.ids[k] = true) (h2 : g.ids[k] ∉ g.ids.take k) : IdsTo g (k + 1) := by
  unfold IdsTo
  rw [List.take_succ_eq_append_getElem hk]
  refine ⟨fun x hx => ?_, ?_⟩
  · rcases List.mem_append.1 hx with hx | hx
    · exact h.1 x hx
    · rw [List.mem_singleton.1 hx]; exact h1
  · rw [List.nodup_append]
    exact ⟨h.2, by simp, fun a ha b hb => by rw [List.mem_singleton.1 hb]; intro e; exact h2 (e ▸ ha)⟩

/-! ### the links -/
def EdgesTo (g : Graph) (E : List Edge) : Prop := (∀ e ∈ E, e.ok g.ports.length = true ∧ 0 ≤ e.fr ∧ e.fr < g.ports.length) ∧ (E.map Edge.key).Nodup
theorem edges_no {g : Graph} (h : ¬ ((∀ e ∈ g.edges, e.ok g.ports.length = true) ∧ (g.edges.map Edge.key).Nodup)) : g.valid = false := by
  cases hv : g.valid with
  | false => rfl
  | true => exact absurd ⟨((valid_iff g).1 hv).2.2.2.1, ((valid_iff g).1 hv).2.2.2.2.1⟩ h
/-- The links in front of port j of node v. -/
def front (g : Graph) (v j : Nat) : List Edge := edgesFrom 0 (g.ports.take v) ++ rowEdges v ((g.ports.getD v []).take j)
theorem front_zero (g : Graph) (v : Nat) : front g v 0 = edgesFrom 0 (g.ports.take v) := by simp [front, rowEdges]
theorem front_step {g : Graph} {v j : Nat} {ps : List Link} (hp : g.ports.getD v [] = ps) (hj : j < ps.length) : front g v (j + 1) = front g v j ++ [⟨v, ps[j].to_, ps[j].wt⟩] := by
  subst hp
  simp only [front, rowEdges, List.append_assoc]
  rw [List.take_succ_eq_append_getElem hj, List.map_append]
  rfl
theorem front_row {g : Graph} {v j : Nat} (hv : v < g.ports.length) (hj : (g.ports.getD v []).length ≤ j) : front g v j = edgesFrom 0 (g.ports.take (v + 1)) := by
  have e1 : g.ports.getD v [] = g.ports[v] := by simp [List.getD_eq_getElem?_getD, hv]
  rw [List.take_succ_eq_append_getElem hv, edgesFrom_append]
  have e2 : (0 : Int) + ((g.ports.take v).length : Nat) = v := by rw [List.length_take, Nat.min_eq_left (by omega)]; omega
  rw [front, List.take_of_length_le hj, e1, e2]
  simp [edgesFrom]
theorem front_edges {g : Graph} {v j : Nat} (hv : v < g.ports.length) : ∃ r, g.edges = front g v j ++ r := by
  have e1 : g.ports.getD v [] = g.ports[v] := by simp [List.getD_eq_getElem?_getD, hv]
  have e0 : g.edges = edgesFrom 0 (g.ports.take (v + 1)) ++ edgesFrom (0 + ((g.ports.take (v + 1)).length : Nat)) (g.ports.drop (v + 1)) := by rw [← edgesFrom_append, List.take_append_drop]; rfl
  rw [e0, ← front_row hv (Nat.le_refl _)]
  refine ⟨rowEdges v ((g.ports.getD v []).drop j) ++ edgesFrom (0 + ((g.ports.take (v + 1)).length : Nat)) (g.ports.drop (v + 1)), ?_⟩
  simp only [front, List.append_assoc, rowEdges, List.take_length]
  congr 1
  rw [← List.append_assoc, ← List.map_append, List.take_append_drop]
theorem front_bad {g : Graph} {v j : Nat} {ps : List Link} (hv : v < g.ports.length) (hp : g.ports.getD v [] = ps) (hj : j < ps.length)
    (h : Edge.ok g.ports.length ⟨v, ps[j].to_, ps[j].wt⟩ = false ∨ ((v : Int), ps[j].to_) ∈ (front g v j).map Edge.key) : g.valid = false := by
  refine edges_no fun ⟨h1, h2⟩ => ?_
  obtain ⟨r, hr⟩ := front_edges (g := g) (j := j + 1) hv
  rw [front_step hp hj] at hr
  rcases h with h | h
  · rw [h1 _ (by rw [hr]; simp)] at h; cases h
  · rw [hr, List.map_append, List.map_append, List.nodup_append, List.nodup_append] at h2
    exact h2.1.2.2 _ h _ (by simp [Edge.key]) rfl
theorem edgesTo_step {g : Graph} {E : List Edge} (h : EdgesTo g E) (e : Edge) (h1 : e.ok g.ports.length = true) (h0 : 0 ≤ e.fr ∧ e.fr < g.ports.length) (h2 : e.key ∉ E.map Edge.key) : EdgesTo g (E ++ [e]) := by
  refine ⟨fun d hd => ?_, ?_⟩
  · rcases List.mem_append.1 hd with hd | hd
    · exact h.1 d hd
    · rw [List.mem_singleton.1 hd]; exact ⟨h1, h0⟩
  · rw [List.map_append, List.nodup_append]
    refine ⟨h.2, by simp, fun a ha b hb => ?_⟩
    have : b = e.key := by simpa using hb
    rw [this]
    rintro rfl
    exact h2 ha
theorem edgesTo_size {g : Graph} {E : List Edge} (h : EdgesTo g E) (hn : g.ports.length ≤ 24) : E.length ≤ 576 := by
  have h1 : (E.map Edge.key).length ≤ ((List.range 24).flatMap fun (a : Nat) => (List.range 24).map fun (b : Nat) => ((a : Int), (b : Int))).length := by
    refine List.Nodup.length_le_of_subset h.2 fun x hx => ?_
    obtain ⟨e, he, rfl⟩ := List.mem_map.1 hx
    obtain ⟨h1, h2, h3⟩ := h.1 e he
    simp only [Edge.ok, decide_eq_true_eq] at h1
    simp only [List.mem_flatMap, List.mem_map, List.mem_range, Edge.key]
    exact ⟨e.fr.toNat, by omega, e.to_.toNat, by omega, by simp; omega⟩
  rw [List.length_map] at h1
  exact Nat.le_trans h1 (by decide +kernel)
theorem edge_wf {n : Nat} {e : Edge} (h : e.ok n = true) (hf : 0 ≤ e.fr ∧ e.fr < n) (hn : n ≤ 24) : (Lit.int .i64 e.fr).wf = true ∧ (Lit.int .i64 e.to_).wf = true ∧ (Lit.int .i64 e.wt).wf = true := by
  simp only [Edge.ok, decide_eq_true_eq] at h
  exact ⟨wf_of (by omega) (by omega), wf_of (by omega) (by omega), wf_of (by omega) (by omega)⟩
/-! ### the way back -/
theorem valid_yes {g : Graph} (h1 : 1 ≤ g.ports.length ∧ g.ports.length ≤ 24 ∧ g.ids.length = g.ports.length) (h2 : IdsTo g g.ids.length) (h3 : EdgesTo g g.edges) (h4 : ∀ e ∈ g.edges, e.back g.edges = true) : g.valid = true := by
  rw [valid_iff]
  unfold IdsTo at h2
  rw [List.take_length] at h2
  exact ⟨h1, h2.1, h2.2, fun e he => (h3.1 e he).1, h3.2, h4⟩
theorem back_no {g : Graph} {e : Edge} (he : e ∈ g.edges) (h : e.back g.edges = false) : g.valid = false := by
  cases hv : g.valid with
  | false => rfl
  | true => rw [((valid_iff g).1 hv).2.2.2.2.2 e he] at h; cases h
theorem key_unique {E : List Edge} (h : (E.map Edge.key).Nodup) {d e : Edge} (hd : d ∈ E) (he : e ∈ E) (hk : d.key = e.key) : d = e := by
  induction E with
  | nil => cases hd
  | cons x r ih =>
    rw [List.map_cons, List.nodup_cons] at h
    rcases List.mem_cons.1 hd with hd | hd <;> rcases List.mem_cons.1 he with he | he
    · rw [hd, he]
    · exact absurd (List.mem_map.2 ⟨e, he, by rw [← hk, hd]⟩) h.1
    · exact absurd (List.mem_map.2 ⟨d, hd, by rw [hk, he]⟩) h.1
    · exact ih h.2 hd he
/-- The weight from the other end decides whether there is the way back. -/
theorem back_iff {E : List Edge} (h : (E.map Edge.key).Nodup) {e : Edge} (hw : e.wt ≠ 0) : e.back E = decide (weightOf E e.to_ e.fr = e.wt) := by
  unfold Edge.back
  congr 1
  refine propext ⟨fun hm => ?_, fun hm => ?_⟩
  · obtain ⟨d, hd, hk, hwd⟩ := weight_yes (E := E) (a := e.to_) (b := e.fr) (List.mem_map.2 ⟨_, hm, rfl⟩)
    rw [hwd, key_unique h hd hm (by rw [hk]; rfl)]
  · by_cases hk : (e.to_, e.fr) ∈ E.map Edge.key
    · obtain ⟨d, hd, hkd, hwd⟩ := weight_yes hk
      obtain ⟨h1, h2⟩ : d.fr = e.to_ ∧ d.to_ = e.fr := by simpa [Edge.key] using hkd
      rw [hwd] at hm
      rw [← h1, ← h2, ← hm]
      exact hd
    · rw [weight_no hk] at hm
      exact absurd hm.symm hw

set_option maxHeartbeats 2000000 in
set_option maxRecDepth 100000 in
theorem valid_late (w : World) (A0 : Option Addr) (c0 : Nat) (A1 : Option Addr) (c1 : Nat) (g : Graph) (hg : IsGraph w A0 c0 A1 c1 g) (h1 : 1 ≤ g.ports.length) (h2 : g.ports.length ≤ 24) (h3 : g.ids.length = g.ports.length) :
    Calls Try.prog 80 #[.agg #[.slice A0 g.ids.length c0, .slice A1 g.ports.length c1]] w fun e w' => e = .returned (.bool g.valid) ∧ Below w.heap.size w w' := by
  have hmk := @run_makeMap Try.prog
  have t1 : ((g.ids.length : Int) != (g.ports.length : Int)) = false := by rw [h3]; simp
  have hn : g.ids.length ≤ 24 := by omega
  have H3 := Lib.hid h3
  clear h3
  go_enter Try.func80, Try.ntmps80
  go_wp2_with fail
  go_loopw [35] (fun i wr => ∃ k : Nat, k ≤ g.ids.length ∧ i = .int .i64 k ∧ IdsTo g k ∧ HasIDs wr (w.heap.size + 1) (g.ids.take k) ∧ Below (w.heap.size + 1) (w.alloc (.cells #[.slice A0 g.ids.length c0, .slice A1 g.ports.length c1] 27)) wr) (fun i _ => g.ids.length - (intOf i).toNat)
  case atStart => exact ⟨0, Nat.zero_le _, rfl, by simp [IdsTo], by simpa using HasIDs.made (w.alloc (.cells #[.slice A0 g.ids.length c0, .slice A1 g.ports.length c1] 27)), (Below.refl _ _).alloc (by simp) _⟩
  case round =>
    obtain ⟨k, hk, rfl, hi, hm, hb⟩ := hrel
    obtain ⟨hc, hf⟩ := bcell hb
    have hB := Lib.hid (((Below.refl w.heap.size w).alloc (Nat.le_refl _) (.cells #[.slice A0 g.ids.length c0, .slice A1 g.ports.length c1] 27)).trans (hb.mono (Nat.le_succ _)))
    have Hg := Lib.hid (hg.below hB.out)
    by_cases hlt : k < g.ids.length
    · obtain ⟨x, hx⟩ : ∃ x, g.ids[k] = x := ⟨_, rfl⟩
      obtain ⟨ad, hA, hcell⟩ := Kd.at_int Hg.out.ids k hlt
      rw [hx] at hcell
      cases hA
      have HX := Lib.hid hx
      have HM := Lib.hid hm
      have HI := Lib.hid hi
      clear hx hm hi hg
      by_cases x0 : x < 0
      · have HV := Lib.hid (idsTo_bad hlt (.inl (by rw [HX.out]; simp [okID]; omega)))
        go_wp2_with fail
        go_ret
        exact ⟨by rw [HV.out]; rfl, hB.out⟩
      · by_cases x1 : 255 < x
        · have HV := Lib.hid (idsTo_bad hlt (.inl (by rw [HX.out]; simp [okID]; omega)))
          go_wp2_with fail
          go_ret
          exact ⟨by rw [HV.out]; rfl, hB.out⟩
        · have wx : (Lit.int .i64 x).wf = true := wf_of (by omega) (by omega)
          have hrun := HM.out.look wx
          by_cases x2 : x ∈ g.ids.take k
          · rw [decide_eq_true x2] at hrun
            have HV := Lib.hid (idsTo_bad hlt (.inr (by rw [HX.out]; exact x2)))
            clear x2 wx
            go_wp2_with fail
            go_ret
            exact ⟨by rw [HV.out]; rfl, hB.out⟩
          · rw [decide_eq_false x2] at hrun
            have HN := Lib.hid (idsTo_step hlt HI.out (by rw [HX.out]; simp [okID]; omega) (by rw [HX.out]; exact x2))
            have WX := Lib.hid wx
            obtain ⟨D, hD, hD2, hD3⟩ := HM.out
            have HD := Lib.hid hD
            have HD2 := Lib.hid hD2
            have HD3 := Lib.hid hD3
            clear x2 wx hD hD2 hD3
            go_wp2_with (at_mapUpdate; go_must (refine wpList_mapUpdate_own _ rfl _ _ _ 81 rfl 3 4 lawInt Try.underlying81 _ (w.heap.size + 1) _ _ rfl HD.out (by have := H3.out; unfold maxLen; simp; omega) _ _ _ rfl rfl (keyOf_int_mk Try.underlying3 WX.out) _ [] (plainElem_bool Try.underlying4 true) ?_); intro w1 hown1 hgrow1)
            go_roundw
            case rel =>
              refine ⟨k + 1, by omega, by go_num, HN.out, ?_, ?_⟩
              · rw [List.take_succ_eq_append_getElem hlt, HX.out]
                exact HasIDs.put HD2.out HD3.out HD.out.isMap WX.out hown1
              · exact hb.grown hgrow1 (by have := hb.size; simp at this; omega) (by simp)
            case measure => simp [intOf]; omega
    · obtain ⟨wa, rfl⟩ : ∃ wa : World, wa = wr := ⟨_, rfl⟩
      have HI := Lib.hid (show IdsTo g g.ids.length by rw [show g.ids.length = k from by omega]; exact hi)
      have hge : g.ids.length ≤ k := by omega
      have hz := hb.size
      simp only [World.size_alloc] at hz
      have hc1 : wa.cell? ⟨w.heap.size, 1, none⟩ = some (.slice A1 g.ports.length c1) := by rw [hc _ _ (Nat.lt_succ_self _)]; go_simp
      have HB := Lib.hid hb
      have hz1 : w.heap.size < wa.heap.size := by omega
      clear hi hm hg hlt hb hc hf
      go_wp2_with fail
      go_loopw [57] (fun i wv => ∃ v : Nat, v ≤ g.ports.length ∧ i = .int .i64 v ∧ EdgesTo g (edgesFrom 0 (g.ports.take v)) ∧ HasLinks wv wa.heap.size (edgesFrom 0 (g.ports.take v)) ∧ Below wa.heap.size wa wv) (fun i _ => g.ports.length - (intOf i).toNat)
      case atStart => exact ⟨0, Nat.zero_le _, rfl, by simp [EdgesTo, edgesFrom], by simpa [edgesFrom] using HasLinks.made wa, (Below.refl _ _).alloc (Nat.le_refl _) _⟩
      case round =>
        obtain ⟨wv, rfl⟩ : ∃ wv : World, wv = wr := ⟨_, rfl⟩
        obtain ⟨v, hv, rfl, he, hm, hb⟩ := hrel
        have hc1v : wv.cell? ⟨w.heap.size, 1, none⟩ = some (.slice A1 g.ports.length c1) := (bcell hb).1 _ _ (by omega) ▸ hc1
        have hzv := hb.size
        have hltv : wa.heap.size < wv.heap.size := by
          obtain ⟨D0, hD0, _⟩ := hm
          exact hD0.lt
        by_cases hlt : v < g.ports.length
        · obtain ⟨ad, A2, c2, hA, hcell, hl2, hC2⟩ := Kd.at_slice Hg.out.ports v hlt
          cases hA
          replace hcell := cell_keeps (keeps_of hb) hcell
          obtain ⟨ps, hps⟩ : ∃ ps, g.ports[v] = ps := ⟨_, rfl⟩
          rw [hps] at hcell hl2 hC2
          have hp : g.ports.getD v [] = ps := by rw [← hps]; simp [List.getD_eq_getElem?_getD, hlt]
          have HP := Lib.hid hp
          have HC2 := Lib.hid hC2
          have HM := Lib.hid hm
          have HE := Lib.hid he
          have HBV := Lib.hid hb
          have hpm := Kd.C_max hC2
          clear hp hps hC2 hm he hb
          go_wp2_with fail
          go_loopw [64] (fun i wi => ∃ j : Nat, j ≤ ps.length ∧ i = .int .i64 j ∧ EdgesTo g (front g v j) ∧ HasLinks wi wa.heap.size (front g v j) ∧ Below wa.heap.size wa wi) (fun i _ => ps.length - (intOf i).toNat)
          case atStart => exact ⟨0, Nat.zero_le _, rfl, by rw [front_zero]; exact HE.out, by rw [front_zero]; exact HM.out, HBV.out⟩
          case round =>
            obtain ⟨wi, rfl⟩ : ∃ wi : World, wi = wr := ⟨_, rfl⟩
            obtain ⟨j, hj, rfl, he, hm, hb⟩ := hrel
            have hzi := hb.size
            have hlti : wa.heap.size < wi.heap.size := by
              obtain ⟨D0, hD0, _⟩ := hm
              exact hD0.lt
            by_cases hjl : j < ps.length
            · have hci := Kd.C_below HC2.out hb
              obtain ⟨x, y, hxy⟩ : ∃ x y, ps[j] = ⟨x, y⟩ := ⟨_, _, rfl⟩
              obtain ⟨ad2, hA2, hx, hy⟩ := at_link hci j hjl
              rw [hxy] at hx hy
              cases hA2
              have HF : Hid (Edge.ok g.ports.length ⟨v, x, y⟩ = false ∨ ((v : Int), x) ∈ (front g v j).map Edge.key → g.valid = false) := fun h => front_bad hlt HP.out hjl (by rw [hxy]; exact h)
              have HS := Lib.hid (front_step HP.out hjl)
              rw [hxy] at HS
              have HB2 := Lib.hid (hB.out.trans (hb.mono (Nat.le_of_lt hz1)))
              have HM := Lib.hid hm
              have HE := Lib.hid he
              have HBI := Lib.hid hb
              clear hxy hci hm he hb
              by_cases x0 : x < 0
              · have HV := Lib.hid (HF.out (.inl (by simp [Edge.ok]; omega)))
                go_wp2_with fail
                go_ret
                exact ⟨by rw [HV.out]; rfl, (HB2.out.alloc (by omega) _).alloc (by simp; omega) _⟩
              · by_cases x1 : (g.ports.length : Int) ≤ x
                · have HV := Lib.hid (HF.out (.inl (by simp [Edge.ok]; omega)))
                  go_wp2_with fail
                  go_ret
                  exact ⟨by rw [HV.out]; rfl, (HB2.out.alloc (by omega) _).alloc (by simp; omega) _⟩
                · by_cases x2 : x = v
                  · have x2b : ((x : Int) == (v : Int)) = true := by simp [x2]
                    have HV := Lib.hid (HF.out (.inl (by simp [Edge.ok, x2])))
                    clear x2
                    go_wp2_with fail
                    go_ret
                    exact ⟨by rw [HV.out]; rfl, (HB2.out.alloc (by omega) _).alloc (by simp; omega) _⟩
                  · have x2b : ((x : Int) == (v : Int)) = false := by simp [x2]
                    have HX2 := Lib.hid x2
                    clear x2
                    by_cases x3 : y < 1
                    · have HV := Lib.hid (HF.out (.inl (by simp [Edge.ok]; omega)))
                      go_wp2_with fail
                      go_ret
                      exact ⟨by rw [HV.out]; rfl, (HB2.out.alloc (by omega) _).alloc (by simp; omega) _⟩
                    · by_cases x4 : 15 < y
                      · have HV := Lib.hid (HF.out (.inl (by simp [Edge.ok]; omega)))
                        go_wp2_with fail
                        go_ret
                        exact ⟨by rw [HV.out]; rfl, (HB2.out.alloc (by omega) _).alloc (by simp; omega) _⟩
                      · have wv : (Lit.int .i64 (v : Int)).wf = true := wf_of (by omega) (by omega)
                        have wx : (Lit.int .i64 x).wf = true := wf_of (by omega) (by omega)
                        have wy : (Lit.int .i64 y).wf = true := wf_of (by omega) (by omega)
                        obtain ⟨D, hD, hS⟩ := HM.out
                        have hrun : ∀ o1 o2, (Instr.lookup 82 (.map (some wa.heap.size)) (.agg #[.int .i64 v, .int .i64 x]) false).run Try.prog ((wi.alloc o1).alloc o2) = .ok (.int .i64 (weightOf (front g v j) v x)) ((wi.alloc o1).alloc o2) := fun o1 o2 => own_look ((hD.alloc o1).alloc o2) hS wv wx
                        by_cases x5 : ((v : Int), x) ∈ (front g v j).map Edge.key
                        · have hw : ((weightOf (front g v j) v x) != 0) = true := by
                            obtain ⟨e, hee, _, hwe⟩ := weight_yes x5
                            have := (HE.out.1 e hee).1
                            simp only [Edge.ok, decide_eq_true_eq] at this
                            rw [hwe, bne_iff_ne]
                            omega
                          have HV := Lib.hid (HF.out (.inr x5))
                          generalize weightOf (front g v j) v x = c at hrun hw
                          clear x5 hD hS wv wx wy
                          go_wp2_with fail
                          go_ret
                          exact ⟨by rw [HV.out]; rfl, (HB2.out.alloc (by omega) _).alloc (by simp; omega) _⟩
                        · rw [weight_no x5] at hrun
                          have HD := Lib.hid hD
                          have HSS := Lib.hid hS
                          have WV := Lib.hid wv
                          have WX := Lib.hid wx
                          have WY := Lib.hid wy
                          have X5 := Lib.hid x5
                          have hsz := edgesTo_size HE.out h2
                          clear x5 hD hS wv wx wy
                          go_wp2_with (at_mapUpdate; go_must (refine wpList_mapUpdate_own _ rfl _ _ _ 82 rfl 84 3 lawEnd Try.underlying82 _ wa.heap.size _ _ rfl ((HD.out.alloc _).alloc _) (by unfold maxLen; omega) _ _ _ rfl rfl (keyOf_end WV.out WX.out) _ [] (plainElem_int Try.underlying3 WY.out) ?_); intro w1 hown1 hgrow1)
                          go_roundw
                          case rel =>
                            refine ⟨_, _, _, _, ⟨j + 1, by omega, rfl, ?_, ⟨D.put (ek v x) (.lit (.int .i64 y)), ?_, ?_⟩, ?_⟩, rfl, rfl, rfl, by go_num⟩
                            · rw [HS.out]; exact edgesTo_step HE.out _ (by simp [Edge.ok]; exact ⟨by omega, by omega, HX2.out, by omega, by omega⟩) ⟨by simp, by simp; omega⟩ X5.out
                            · rw [HS.out, List.length_append]; exact hown1
                            · rw [HS.out]; exact HSS.out.put ⟨v, x, y⟩ WV.out WX.out X5.out
                            · exact ((HBI.out.alloc (by omega) _).alloc (by simp; omega) _).grown hgrow1 (by simp; omega) (by simp)
                          case measure => simp [intOf]; omega
            · have hjg : ps.length ≤ j := by omega
              have HE := Lib.hid (show EdgesTo g (edgesFrom 0 (g.ports.take (v + 1))) by rw [← front_row hlt (by rw [HP.out]; exact hjg)]; exact he)
              have HM := Lib.hid (show HasLinks wi wa.heap.size (edgesFrom 0 (g.ports.take (v + 1))) by rw [← front_row hlt (by rw [HP.out]; exact hjg)]; exact hm)
              have HBI := Lib.hid hb
              clear hjl he hm hb
              go_wp2_with fail
              go_roundw
              case rel => exact ⟨v + 1, by omega, by go_num, HE.out, HM.out, HBI.out⟩
              case measure => simp [intOf]; omega
        · have hvg : g.ports.length ≤ v := by omega
          have hall : edgesFrom 0 (g.ports.take v) = g.edges := by rw [List.take_of_length_le hvg]; rfl
          rw [hall] at he hm
          obtain ⟨D, hD, hS⟩ := hm
          have HE := Lib.hid he
          have HSS := Lib.hid hS
          have HD := Lib.hid hD
          have HBV := Lib.hid hb
          clear hall hlt he hD hS hb
          go_wp2_with (at_range; go_must (refine wpList_range_own _ rfl _ 82 rfl 84 3 lawEnd Try.underlying82 _ wa.heap.size _ D rfl HD.out ?_); intro w0 hrg0 hg0 hs0)
          go_frame
          obtain ⟨wb, rfl⟩ : ∃ wb : World, wb = wv := ⟨_, rfl⟩
          go_loopw [14] (fun _ wr => ∃ (left : Lit → Bool) (cnt : Nat), wr.ranges Try.prog 84 (plainElem Try.prog 3) wa.heap.size wb.heap.size g.edges.length D left cnt ∧ (∀ e ∈ g.edges, left (ek e.fr e.to_) = false → e.back g.edges = true) ∧ Below wa.heap.size wa wr) (fun _ wr => wr.rangeLeft wa.heap.size wb.heap.size)
          case atStart =>
            refine ⟨_, _, hrg0, fun e he hl => ?_, HBV.out.grown hg0 (by omega) (by simp)⟩
            rw [has_true_of_atKey (HSS.out.at_ e he)] at hl
            cases hl
          case round =>
            obtain ⟨left, cnt, hrg, hback, hb⟩ := hrel
            have HBK := Lib.hid hback
            have HBR := Lib.hid hb
            have HBW := Lib.hid (hB.out.trans (hb.mono (Nat.le_of_lt hz1)))
            have HRG := Lib.hid hrg
            have hlr := hrg.lt
            have hzr := hb.size
            clear hback hb hrg hrg0
            go_wp2_with (at_next; go_must (refine wpList_next_ranges _ rfl _ rfl 84 lawEnd (plainElem Try.prog 3) (fun p : Int × Int => .agg #[.int .i64 p.1, .int .i64 p.2]) (Value.int .i64) (fun key kl hk => by obtain ⟨a, b, e, _⟩ := keyOf_end_inv hk; exact ⟨(a, b), e⟩) (fun v y hv => by obtain ⟨c, e, _⟩ := plainElem_int_inv Try.underlying3 hv; exact ⟨c, e⟩) wa.heap.size wb.heap.size _ D left cnt rfl HRG.out ?_ ?_))
            · intro hc0 hl0
              have HV := Lib.hid (valid_yes ⟨h1, h2, H3.out⟩ HI.out HE.out fun e he => HBK.out e he (hl0 _))
              go_wp2_with fail
              go_ret
              exact ⟨by rw [HV.out]; rfl, HBW.out⟩
            · intro a b c kl y1 y2 w1 cnt1 hkey hlk hv hat hrg1 hlt1 hg1 hs1 hen
              obtain ⟨a', b', e1, wa', wb', rfl⟩ := keyOf_end_inv hkey
              obtain ⟨rfl, rfl⟩ : a = a' ∧ b = b' := by simpa using e1
              obtain ⟨c', e2, e3, _⟩ := plainElem_int_inv Try.underlying3 hv
              obtain rfl : c = c' := by simpa using e2
              obtain ⟨rfl, rfl⟩ : y1 = .lit (.int .i64 c) ∧ y2 = [] := by simpa using e3
              have hmem : (⟨a, b, c⟩ : Edge) ∈ g.edges := by
                have h1 := has_true_of_atKey hat
                by_cases hk : (a, b) ∈ g.edges.map Edge.key
                · obtain ⟨e, he, hke, _⟩ := weight_yes hk
                  obtain ⟨rfl, rfl⟩ : e.fr = a ∧ e.to_ = b := by simpa [Edge.key] using hke
                  have := HSS.out.at_ e he (.lit (.int .i64 0))
                  rw [hat] at this
                  have : c = e.wt := by simpa using this
                  rw [this]; exact he
                · rw [HSS.out.no a b wa' wb' hk] at h1; cases h1
              have hc1 : c ≠ 0 := by
                have := (HE.out.1 _ hmem).1
                simp only [Edge.ok, decide_eq_true_eq] at this
                omega
              have hrun : ∀ o, (Instr.lookup 82 (.map (some wa.heap.size)) (.agg #[.int .i64 b, .int .i64 a]) false).run Try.prog (w1.alloc o) = .ok (.int .i64 (weightOf g.edges b a)) (w1.alloc o) := fun o => own_look (hrg1.owns.alloc o) HSS.out wb' wa'
              have HBI := Lib.hid (back_iff HE.out.2 (e := ⟨a, b, c⟩) hc1)
              have HMEM := Lib.hid hmem
              have HB1 := Lib.hid (HBR.out.grown hg1 (by omega) (by intro q hq; cases hq; omega))
              have HB2 := Lib.hid (HBW.out.grown hg1 (by omega) (by intro q hq; cases hq; omega))
              by_cases hwt : weightOf g.edges b a = c
              · have hwb : (weightOf g.edges b a != c) = false := by simp [hwt]
                have HWT := Lib.hid hwt
                have HRG1 := Lib.hid hrg1
                generalize weightOf g.edges b a = c2 at hrun hwb
                have HKEYS : Hid (∀ e ∈ g.edges, (left (ek e.fr e.to_) && !(ek e.fr e.to_).sameKey (ek a b)) = false → e.back g.edges = true) := fun e he hl => by
                  by_cases hs : (ek e.fr e.to_).sameKey (ek a b) = true
                  · have hs' : ek e.fr e.to_ = ek a b := by simpa [ek, Lit.sameKey] using hs
                    obtain ⟨h5, h6⟩ := ek_inj (HSS.out.wf e he).1 (HSS.out.wf e he).2 wa' wb' hs'
                    rw [key_unique HE.out.2 he hmem (by simp [Edge.key, h5, h6]), HBI.out, HWT.out]
                    simp
                  · rw [Bool.not_eq_true] at hs
                    rw [hs] at hl
                    exact HBK.out e he (by simpa using hl)
                clear hwt hc1 hmem hat hrg1 hv hkey hlk wa' wb' hg1 e1 e2 e3
                go_wp2_with fail
                go_roundw
                case rel => exact ⟨_, ⟨cnt1, HRG1.out.alloc _⟩, HKEYS.out, HB1.out.alloc (by omega) _⟩
                case measure => rw [(HRG1.out.alloc _).left_eq, HRG.out.left_eq]; exact hlt1
              · have hwb : (weightOf g.edges b a != c) = true := by simp [hwt]
                have HV := Lib.hid (back_no HMEM.out (by rw [HBI.out]; simp [hwt]))
                generalize weightOf g.edges b a = c2 at hrun hwb
                clear hwt hc1 hmem hat hrg1 hv hkey hlk wa' wb' hg1 e1 e2 e3
                go_wp2_with fail
                go_ret
                exact ⟨by rw [HV.out]; rfl, HB2.out.alloc (by omega) _⟩

theorem valid_calls (w : World) (A0 : Option Addr) (c0 : Nat) (A1 : Option Addr) (c1 : Nat) (g : Graph) (hg : IsGraph w A0 c0 A1 c1 g) :
    Calls Try.prog 80 #[.agg #[.slice A0 g.ids.length c0, .slice A1 g.ports.length c1]] w fun e w' => e = .returned (.bool g.valid) ∧ Below w.heap.size w w' := by
  by_cases h : 1 ≤ g.ports.length ∧ g.ports.length ≤ 24 ∧ g.ids.length = g.ports.length
  · exact valid_late w A0 c0 A1 c1 g hg h.1 h.2.1 h.2.2
  · exact valid_early w A0 c0 A1 c1 g h

end Go.Proofs.Ythapikakneikbaa
