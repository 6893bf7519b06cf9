/-
  Rows of links that are made by adding links one by one: they make a valid graph. (No program in this text.)
-/
import Derived.Test.YthapikakneikbaaNodes
import Derived.Test.YthapikakneikbaaLink
import Derived.Test.YthapikakneikbaaSpec
namespace Go.Proofs.Ythapikakneikbaa
open Go.RowKit

structure Good (n : Nat) (rows : List (List Link)) : Prop where
  len : rows.length = n
  rng : ∀ (a : Nat) r l, rows[a]? = some r → l ∈ r → 0 ≤ l.to_ ∧ l.to_ < n ∧ l.to_ ≠ a ∧ 1 ≤ l.wt ∧ l.wt ≤ 15
  nd : ∀ (a : Nat) r, rows[a]? = some r → (r.map Link.to_).Nodup
  sym : ∀ (a : Nat) r l, rows[a]? = some r → l ∈ r → ∃ r', rows[l.to_.toNat]? = some r' ∧ (⟨a, l.wt⟩ : Link) ∈ r'

theorem good_none (n : Nat) : Good n (List.replicate n []) := by
  have h : ∀ (a : Nat) r, (List.replicate n ([] : List Link))[a]? = some r → r = [] := fun a r h => by
    have := List.mem_of_getElem? h; simp at this; exact this.2
  refine ⟨by simp, ?_, ?_, ?_⟩
  · intro a r l h1 h2; rw [h a r h1] at h2; cases h2
  · intro a r h1; rw [h a r h1]; simp
  · intro a r l h1 h2; rw [h a r h1] at h2; cases h2
theorem mem_addLink {back : Bool} {r : List Link} {x l : Link} : l ∈ addLink back r x ↔ l = x ∨ l ∈ r := by
  unfold addLink; cases back <;> simp [or_comm]
theorem nd_addLink {back : Bool} {r : List Link} {x : Link} (h : (r.map Link.to_).Nodup) (hx : ∀ l ∈ r, l.to_ ≠ x.to_) : ((addLink back r x).map Link.to_).Nodup := by
  unfold addLink
  cases back
  · simp only [Bool.false_eq_true, if_false, List.map_append, List.map_cons, List.map_nil]
    rw [List.nodup_append]
    refine ⟨h, by simp, fun a ha b hb e => ?_⟩
    obtain ⟨l, hl, rfl⟩ := List.mem_map.1 ha
    rw [List.mem_singleton.1 hb] at e
    exact hx l hl e
  · simp only [if_true, List.map_cons, List.nodup_cons]
    refine ⟨fun ha => ?_, h⟩
    obtain ⟨l, hl, e⟩ := List.mem_map.1 ha
    exact hx l hl e
theorem linked_false {rows : List (List Link)} {a : Nat} {b : Int} {r : List Link} (h : linkedB rows a b = false) (hr : rows[a]? = some r) : ∀ l ∈ r, l.to_ ≠ b := by
  intro l hl e
  unfold linkedB at h
  rw [List.getD_eq_getElem?_getD, hr] at h
  have := List.any_eq_false.1 h l hl
  simp [e] at this

theorem good_link {n : Nat} {rows : List (List Link)} (h : Good n rows) (back : Bool) {a b : Nat} {wt : Int} (ha : a < n) (hb : b < n) (hw : 1 ≤ wt ∧ wt ≤ 15) : Good n (linkRows back rows a b wt) := by
  unfold linkRows
  split
  · exact h
  · rename_i hc
    have hne : a ≠ b := fun e => hc (.inl e)
    have hlk : linkedB rows a b = false := by
      cases hx : linkedB rows a b with
      | true => exact absurd (.inr hx) hc
      | false => rfl
    obtain ⟨ra, hra⟩ : ∃ ra, rows[a]? = some ra := ⟨_, List.getElem?_eq_getElem (by rw [h.len]; exact ha)⟩
    obtain ⟨rb, hrb⟩ : ∃ rb, rows[b]? = some rb := ⟨_, List.getElem?_eq_getElem (by rw [h.len]; exact hb)⟩
    have ga : rows.getD a [] = ra := by rw [List.getD_eq_getElem?_getD, hra]; rfl
    have gb : rows.getD b [] = rb := by rw [List.getD_eq_getElem?_getD, hrb]; rfl
    rw [ga, gb]
    have la := linked_false hlk hra
    have lb : ∀ l ∈ rb, l.to_ ≠ (a : Int) := fun l hl e => by
      obtain ⟨r', h1, h2⟩ := h.sym b rb l hrb hl
      rw [e, Int.toNat_natCast, hra] at h1
      cases h1
      exact la _ h2 rfl
    generalize hR : (rows.set a (addLink back ra ⟨b, wt⟩)).set b (addLink back rb ⟨a, wt⟩) = R
    have hRa : R[a]? = some (addLink back ra ⟨b, wt⟩) := by
      rw [← hR, List.getElem?_set_ne (fun e => hne e.symm), List.getElem?_set_self (by rw [h.len]; exact ha)]
    have hRb : R[b]? = some (addLink back rb ⟨a, wt⟩) := by
      rw [← hR, List.getElem?_set_self (by rw [List.length_set, h.len]; exact hb)]
    have hRo : ∀ k, k ≠ a → k ≠ b → R[k]? = rows[k]? := fun k h1 h2 => by
      rw [← hR, List.getElem?_set_ne (fun e => h2 e.symm), List.getElem?_set_ne (fun e => h1 e.symm)]
    have hRl : R.length = n := by rw [← hR, List.length_set, List.length_set, h.len]
    -- every old link of a row lies in the new row
    have old : ∀ (k : Nat) r l, rows[k]? = some r → l ∈ r → ∃ r', R[k]? = some r' ∧ l ∈ r' := fun k r l h1 h2 => by
      by_cases e1 : k = a
      · subst e1; rw [hra] at h1; cases h1; exact ⟨_, hRa, mem_addLink.2 (.inr h2)⟩
      · by_cases e2 : k = b
        · subst e2; rw [hrb] at h1; cases h1; exact ⟨_, hRb, mem_addLink.2 (.inr h2)⟩
        · exact ⟨r, by rw [hRo k e1 e2, h1], h2⟩
    -- and what lies in the new row is old, or one of the two
    have new : ∀ (k : Nat) r l, R[k]? = some r → l ∈ r → (∃ r0, rows[k]? = some r0 ∧ l ∈ r0) ∨ (k = a ∧ l = ⟨b, wt⟩) ∨ (k = b ∧ l = ⟨a, wt⟩) := fun k r l h1 h2 => by
      by_cases e1 : k = a
      · subst e1; rw [hRa] at h1; cases h1
        rcases mem_addLink.1 h2 with e | h2
        · exact .inr (.inl ⟨rfl, e⟩)
        · exact .inl ⟨ra, hra, h2⟩
      · by_cases e2 : k = b
        · subst e2; rw [hRb] at h1; cases h1
          rcases mem_addLink.1 h2 with e | h2
          · exact .inr (.inr ⟨rfl, e⟩)
          · exact .inl ⟨rb, hrb, h2⟩
        · rw [hRo k e1 e2] at h1; exact .inl ⟨r, h1, h2⟩
    refine ⟨hRl, ?_, ?_, ?_⟩
    · intro k r l h1 h2
      rcases new k r l h1 h2 with ⟨r0, h3, h4⟩ | ⟨rfl, rfl⟩ | ⟨rfl, rfl⟩
      · exact h.rng k r0 l h3 h4
      · exact ⟨by simp, by simp; omega, by simp; omega, hw.1, hw.2⟩
      · exact ⟨by simp, by simp; omega, by simp; omega, hw.1, hw.2⟩
    · intro k r h1
      by_cases e1 : k = a
      · subst e1; rw [hRa] at h1; cases h1; exact nd_addLink (h.nd _ _ hra) la
      · by_cases e2 : k = b
        · subst e2; rw [hRb] at h1; cases h1; exact nd_addLink (h.nd _ _ hrb) lb
        · rw [hRo k e1 e2] at h1; exact h.nd k r h1
    · intro k r l h1 h2
      rcases new k r l h1 h2 with ⟨r0, h3, h4⟩ | ⟨rfl, rfl⟩ | ⟨rfl, rfl⟩
      · obtain ⟨r', h5, h6⟩ := h.sym k r0 l h3 h4
        exact old _ r' _ h5 h6
      · exact ⟨_, by simpa using hRb, mem_addLink.2 (.inl rfl)⟩
      · exact ⟨_, by simpa using hRa, mem_addLink.2 (.inl rfl)⟩

theorem good_row {n : Nat} {rows : List (List Link)} (h : Good n rows) {r : List Link} (hr : r ∈ rows) : r.length ≤ n := by
  obtain ⟨a, ha, rfl⟩ := List.mem_iff_getElem.1 hr
  have h1 := h.nd a _ (List.getElem?_eq_getElem ha)
  have h2 := List.Nodup.length_le_of_subset h1 (l₂ := (List.range n).map (fun k : Nat => (k : Int))) fun x hx => by
    obtain ⟨l, hl, rfl⟩ := List.mem_map.1 hx
    obtain ⟨r0, r1, _⟩ := h.rng a _ l (List.getElem?_eq_getElem ha) hl
    exact List.mem_map.2 ⟨l.to_.toNat, List.mem_range.2 (by omega), by omega⟩
  simpa using h2

theorem mem_edges {ids : List Int} {rows : List (List Link)} {e : Edge} : e ∈ (⟨ids, rows⟩ : Graph).edges ↔ ∃ (k : Nat) (r : List Link), rows[k]? = some r ∧ e.fr = k ∧ (⟨e.to_, e.wt⟩ : Link) ∈ r := by
  unfold Graph.edges
  rw [mem_edgesFrom]
  simp
theorem keys_nodup {rows : List (List Link)} (h : ∀ (a : Nat) r, rows[a]? = some r → (r.map Link.to_).Nodup) (v : Int) : ((edgesFrom v rows).map Edge.key).Nodup := by
  induction rows generalizing v with
  | nil => simp [edgesFrom]
  | cons p r ih =>
    simp only [edgesFrom, List.map_append]
    rw [List.nodup_append]
    refine ⟨?_, ih (fun a r' hr => h (a + 1) r' (by simpa using hr)) (v + 1), ?_⟩
    · have := h 0 p rfl
      unfold rowEdges
      rw [List.map_map]
      have e1 : (Edge.key ∘ fun l : Link => (⟨v, l.to_, l.wt⟩ : Edge)) = (fun x : Int => (v, x)) ∘ Link.to_ := by funext l; rfl
      rw [e1, ← List.map_map]
      rw [List.nodup_iff_pairwise_ne, List.pairwise_map]
      exact (List.nodup_iff_pairwise_ne.1 this).imp fun hne e => hne (by simpa using e)
    · intro x hx y hy e
      obtain ⟨e1, h1, rfl⟩ := List.mem_map.1 hx
      obtain ⟨e2, h2, rfl⟩ := List.mem_map.1 hy
      unfold rowEdges at h1
      obtain ⟨l, _, rfl⟩ := List.mem_map.1 h1
      obtain ⟨k, ps, _, h3, _⟩ := mem_edgesFrom.1 h2
      have h4 : v = e2.fr := congrArg Prod.fst e
      omega
theorem good_valid {n : Nat} {rows : List (List Link)} {ids : List Int} (h : Good n rows) (h1 : 1 ≤ n) (h2 : n ≤ 24) (hl : ids.length = n) (hi : ∀ x ∈ ids, 0 ≤ x ∧ x < 256) (hn : ids.Nodup) : (⟨ids, rows⟩ : Graph).valid = true := by
  rw [valid_iff]
  refine ⟨⟨by simp [h.len, h1], by simp [h.len, h2], by simp [h.len, hl]⟩, fun x hx => ?_, hn, ?_, ?_, ?_⟩
  · have := hi x hx
    simp [okID]; omega
  · intro e he
    obtain ⟨k, r, h3, h4, h5⟩ := mem_edges.1 he
    obtain ⟨a1, a2, a3, a4, a5⟩ := h.rng k r _ h3 h5
    simp only at a1 a2 a3 a4 a5
    simp only [Edge.ok, h.len, decide_eq_true_eq]
    omega
  · exact keys_nodup h.nd 0
  · intro e he
    obtain ⟨k, r, h3, h4, h5⟩ := mem_edges.1 he
    obtain ⟨r', h6, h7⟩ := h.sym k r _ h3 h5
    obtain ⟨a1, _⟩ := h.rng k r _ h3 h5
    simp only at a1 h6 h7
    simp only [Edge.back, decide_eq_true_eq]
    refine mem_edges.2 ⟨e.to_.toNat, r', h6, by simp only; omega, ?_⟩
    rw [h4]
    exact h7
end Go.Proofs.Ythapikakneikbaa
