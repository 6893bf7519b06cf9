/-
  What selfstabref01.Valid asks for is what 'valid' says. (No program in this text.)
-/
import Derived.Test.YthapikakneikbaaRefs
import Derived.Test.YthapikakneikbaaGood
namespace Go.Proofs.Ythapikakneikbaa

theorem row_nodup {g : Graph} (h : g.valid = true) {v : Nat} (hv : v < g.ports.length) : ((g.ports.getD v []).map Link.to_).Nodup := by
  obtain ⟨_, _, _, _, hnd, _⟩ := (valid_iff g).1 h
  have e : g.ports.getD v [] = g.ports[v] := by simp [List.getD_eq_getElem?_getD, hv]
  rw [e]
  have hsub : (rowEdges (0 + (v : Int)) g.ports[v]).Sublist g.edges := by
    unfold Graph.edges
    have e2 : g.ports = g.ports.take v ++ (g.ports[v] :: g.ports.drop (v + 1)) := by rw [List.getElem_cons_drop, List.take_append_drop]
    rw [show edgesFrom 0 g.ports = edgesFrom 0 (g.ports.take v ++ (g.ports[v] :: g.ports.drop (v + 1))) from by rw [← e2], edgesFrom_append]
    have e3 : ((g.ports.take v).length : Int) = v := by rw [List.length_take]; omega
    rw [e3]
    simp only [edgesFrom]
    exact ((List.sublist_append_left _ _).trans (List.sublist_append_right _ _))
  have hn2 := (hsub.map Edge.key).nodup hnd
  have e4 : (rowEdges (0 + (v : Int)) g.ports[v]).map Edge.key = (g.ports[v].map Link.to_).map fun x => (0 + (v : Int), x) := by
    unfold rowEdges
    rw [List.map_map, List.map_map]
    rfl
  rw [e4, List.nodup_iff_pairwise_ne, List.pairwise_map] at hn2
  rw [List.nodup_iff_pairwise_ne]
  exact hn2.imp fun h e => h (by rw [e])
theorem row_short {g : Graph} (h : g.valid = true) {v : Nat} (hv : v < g.ports.length) : (g.ports.getD v []).length < g.ports.length := by
  have h1 := row_nodup h hv
  have h2 := List.Nodup.length_le_of_subset h1 (l₂ := ((List.range g.ports.length).erase v).map (fun k : Nat => (k : Int))) fun x hx => by
    obtain ⟨l, hl, rfl⟩ := List.mem_map.1 hx
    obtain ⟨r0, r1, r2, _⟩ := valid_link h hl
    refine List.mem_map.2 ⟨l.to_.toNat, ?_, by omega⟩
    rw [List.mem_erase_of_ne (by omega)]
    exact List.mem_range.2 (by omega)
  rw [List.length_map, List.length_map, List.length_erase_of_mem (List.mem_range.2 hv), List.length_range] at h2
  omega
theorem not_true {b : Bool} (h : b = true → False) : b = false := by cases b with | false => rfl | true => exact absurd rfl fun e => h e
section
variable {g : Graph} {v : Nat}
theorem bad_id (hv : v < g.ids.length) (h : okID (g.ids.getD v 0) = false) : g.valid = false := not_true fun hV => by
  have := ((valid_iff g).1 hV).2.1 (g.ids.getD v 0) (by simp [List.getD_eq_getElem?_getD, hv])
  rw [h] at this; cases this
theorem bad_len (hv : v < g.ports.length) (h : g.ports.length ≤ (g.ports.getD v []).length) : g.valid = false := not_true fun hV => by
  have := row_short hV hv; omega
theorem bad_links (hv : v < g.ports.length) (h : linksB (g.ports.getD v []) v g.ports.length = false) : g.valid = false := not_true fun hV => by
  have : linksB (g.ports.getD v []) v g.ports.length = true := by
    simp only [linksB, Bool.and_eq_true, List.all_eq_true, apart, decide_eq_true_eq]
    refine ⟨fun l hl => ?_, row_nodup hV hv⟩
    have := valid_link hV hl
    simp only [linkOK, decide_eq_true_eq]
    omega
  rw [h] at this; cases this
theorem bad_same {u : Nat} (hu : u < v) (hv : v < g.ids.length) (h : g.ids.getD u 0 = g.ids.getD v 0) : g.valid = false := not_true fun hV => by
  have := ((valid_iff g).1 hV).2.2.1
  rw [List.nodup_iff_pairwise_ne, List.pairwise_iff_getElem] at this
  have := this u v (by omega) hv hu
  simp [List.getD_eq_getElem?_getD, hv, show u < g.ids.length by omega] at h
  exact this h
end
theorem port_some {ps : List Link} {u : Int} {k : Nat} (h : portOf ps u = k) : ∃ hk : k < ps.length, ps[k].to_ = u := by
  unfold portOf at h
  cases hf : ps.findIdx? (fun l => l.to_ == u) with
  | none => rw [hf] at h; simp at h
  | some j =>
    rw [hf] at h
    have h' : (j : Int) = k := by simpa using h
    obtain rfl : j = k := by omega
    rw [List.findIdx?_eq_some_iff_getElem] at hf
    obtain ⟨h1, h2, _⟩ := hf
    exact ⟨h1, by simpa using h2⟩
theorem port_none {ps : List Link} {u : Int} (h : portOf ps u < 0) : ∀ l ∈ ps, l.to_ ≠ u := by
  unfold portOf at h
  cases hf : ps.findIdx? (fun l => l.to_ == u) with
  | some j => rw [hf] at h; simp at h; omega
  | none =>
    rw [List.findIdx?_eq_none_iff] at hf
    intro l hl
    have := hf l hl
    simpa using this
theorem port_bd (ps : List Link) (u : Int) : -1 ≤ portOf ps u ∧ portOf ps u < ps.length := by
  unfold portOf
  cases hf : ps.findIdx? (fun l => l.to_ == u) with
  | none => simp; omega
  | some j =>
    rw [List.findIdx?_eq_some_iff_getElem] at hf
    obtain ⟨h1, _⟩ := hf
    simp; omega
/-- The link has the same link as its other end's. -/
def BackOK (P : List (List Link)) (v : Nat) (l : Link) : Prop := ∃ (k : Nat) (_ : k < (P.getD l.to_.toNat []).length), portAt P l.to_.toNat v = k ∧ ((P.getD l.to_.toNat [])[k]).wt = l.wt
theorem bad_back {g : Graph} {v : Nat} {l : Link} (hl : l ∈ g.ports.getD v []) (h : ¬ BackOK g.ports v l) : g.valid = false := not_true fun hV => by
  have hin := valid_link hV hl
  have hv : v < g.ports.length := by
    rcases Nat.lt_or_ge v g.ports.length with h | h
    · exact h
    · rw [List.getD_eq_getElem?_getD, List.getElem?_eq_none h] at hl; cases hl
  have hm : (⟨v, l.to_, l.wt⟩ : Edge) ∈ g.edges := mem_edgesFrom.2 ⟨v, g.ports[v], List.getElem?_eq_getElem hv, by simp, by simpa [List.getD_eq_getElem?_getD, hv] using hl⟩
  have hb := ((valid_iff g).1 hV).2.2.2.2.2 _ hm
  simp only [Edge.back, decide_eq_true_eq] at hb
  obtain ⟨k, r, hr, hk, hmem⟩ := mem_edges.1 hb
  simp only at hk hmem
  have hkt : k = l.to_.toNat := by omega
  subst hkt
  have hrD : g.ports.getD l.to_.toNat [] = r := by rw [List.getD_eq_getElem?_getD, hr]; rfl
  have hkl : l.to_.toNat < g.ports.length := by omega
  refine h ?_
  by_cases hp : portAt g.ports l.to_.toNat v < 0
  · exact absurd rfl (port_none hp _ (by rw [hrD]; exact hmem))
  · obtain ⟨j, hj⟩ : ∃ j : Nat, portAt g.ports l.to_.toNat v = j := ⟨(portAt g.ports l.to_.toNat v).toNat, by omega⟩
    obtain ⟨h1, h2⟩ := port_some hj
    refine ⟨j, h1, hj, ?_⟩
    have hnd := row_nodup hV hkl
    rw [hrD] at hnd
    simp only [hrD] at h1 h2 ⊢
    obtain ⟨i, hi, he⟩ := List.mem_iff_getElem.1 hmem
    rw [List.nodup_iff_pairwise_ne, List.pairwise_iff_getElem] at hnd
    have hij : i = j := by
      rcases Nat.lt_trichotomy i j with hij | hij | hij
      · have := hnd i j (by simpa using hi) (by simpa using h1) hij
        simp only [List.getElem_map, he, h2] at this
        exact absurd rfl this
      · exact hij
      · have := hnd j i (by simpa using h1) (by simpa using hi) hij
        simp only [List.getElem_map, he, h2] at this
        exact absurd rfl this
    subst hij
    rw [he]
/-- What the first loop asks at a node. -/
def RowOK (g : Graph) (v : Nat) : Prop := okID (g.ids.getD v 0) = true ∧ (g.ports.getD v []).length < g.ports.length ∧ linksB (g.ports.getD v []) v g.ports.length = true ∧ ∀ u, u < v → g.ids.getD u 0 ≠ g.ids.getD v 0
theorem ref_good {g : Graph} (h : 1 ≤ g.ports.length ∧ g.ports.length ≤ 24 ∧ g.ids.length = g.ports.length) (h1 : ∀ v, v < g.ports.length → RowOK g v) (h2 : ∀ v, v < g.ports.length → ∀ l ∈ g.ports.getD v [], BackOK g.ports v l) : g.valid = true := by
  have row : ∀ (a : Nat) r, g.ports[a]? = some r → a < g.ports.length ∧ g.ports.getD a [] = r := fun a r hr => ⟨(List.getElem?_eq_some_iff.1 hr).1, by rw [List.getD_eq_getElem?_getD, hr]; rfl⟩
  have hok : ∀ (a : Nat) r, g.ports[a]? = some r → linksB r a g.ports.length = true := fun a r hr => by
    obtain ⟨h3, h4⟩ := row a r hr
    rw [← h4]; exact (h1 a h3).2.2.1
  have hG : Good g.ports.length g.ports := by
    refine ⟨rfl, fun a r l hr hl => ?_, fun a r hr => ?_, fun a r l hr hl => ?_⟩
    · have := hok a r hr
      simp only [linksB, Bool.and_eq_true, List.all_eq_true] at this
      have := this.1 l hl
      simp only [linkOK, decide_eq_true_eq] at this
      exact this
    · have := hok a r hr
      simp only [linksB, Bool.and_eq_true, apart, decide_eq_true_eq] at this
      exact this.2
    · obtain ⟨h3, h4⟩ := row a r hr
      obtain ⟨k, hk, hp, hw⟩ := h2 a h3 l (by rw [h4]; exact hl)
      obtain ⟨hk2, ht⟩ := port_some hp
      have hlt : l.to_.toNat < g.ports.length := by
        rcases Nat.lt_or_ge l.to_.toNat g.ports.length with h | h
        · exact h
        · rw [List.getD_eq_getElem?_getD, List.getElem?_eq_none h] at hk; simp at hk
      refine ⟨g.ports.getD l.to_.toNat [], by simp [List.getD_eq_getElem?_getD, hlt], ?_⟩
      have : (⟨(a : Int), l.wt⟩ : Link) = (g.ports.getD l.to_.toNat [])[k] := by
        rw [← ht, ← hw]
      rw [this]
      exact List.getElem_mem hk
  have hids : ∀ x ∈ g.ids, 0 ≤ x ∧ x < 256 := fun x hx => by
    obtain ⟨v, hv, rfl⟩ := List.mem_iff_getElem.1 hx
    have := (h1 v (by omega)).1
    simp only [List.getD_eq_getElem?_getD, List.getElem?_eq_getElem hv, Option.getD_some, okID, decide_eq_true_eq] at this
    omega
  have hnd : g.ids.Nodup := by
    rw [List.nodup_iff_pairwise_ne, List.pairwise_iff_getElem]
    intro i j hi hj hij
    have := (h1 j (by omega)).2.2.2 i hij
    simpa [List.getD_eq_getElem?_getD, hi, hj] using this
  exact good_valid (ids := g.ids) hG h.1 h.2.1 h.2.2 hids hnd
end Go.Proofs.Ythapikakneikbaa
