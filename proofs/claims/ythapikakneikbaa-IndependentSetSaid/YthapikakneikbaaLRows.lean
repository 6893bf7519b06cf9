/-
  The ports of a graph that is being made: a row of rows of links, all in memory of the call's own.
-/
import Derived.Test.YthapikakneikbaaNeigh
import Derived.Deep.AppendLies
namespace Go.Proofs.Ythapikakneikbaa
open Go.RowKit

theorem infoLink : (Try.prog.info? 60).map (fun i => (i.zero, i.size, i.bytes)) = some (some (.agg #[.int .i64 0, .int .i64 0]), 2, 16) := by kernel_rfl

/-! ### blocks -/
theorem blk_lt {w : World} {g : Nat} {o : Obj} (h : w.heap[g]? = some o) : g < w.heap.size := (Array.getElem?_eq_some_iff.1 h).1
theorem blk_cell {w : World} {g : Nat} {cs : Array Value} {t : TypeId} {j : Nat} {v : Value} (h : w.heap[g]? = some (.cells cs t (0, 0))) (hj : cs[j]? = some v) : w.cell? ⟨g, j, none⟩ = some v := by
  unfold World.cell?
  rw [h]
  simpa using hj
theorem blk_free {w : World} {g : Nat} {cs : Array Value} {t : TypeId} (j : Nat) (h : w.heap[g]? = some (.cells cs t (0, 0))) : w.frozen? ⟨g, j, none⟩ = false := by
  simp [World.frozen?, h]
theorem blk_set {w : World} {g : Nat} {cs : Array Value} {t : TypeId} {fr : Nat × Nat} (j : Nat) (u : Value) (h : w.heap[g]? = some (.cells cs t fr)) (hj : j < cs.size) : (w.setCell ⟨g, j, none⟩ u).heap[g]? = some (.cells (cs.setIfInBounds j u) t fr) := by
  simp only [World.setCell, Array.getElem?_modify, if_pos, h, Option.map_some]
  simp [Array.setIfInBounds, hj]

theorem cell_at_new {w : World} {cs : Array Value} {t : TypeId} {k j : Nat} {v : Value} (hk : k = w.heap.size) (h : cs[j]? = some v) : (w.alloc (.cells cs t)).cell? ⟨k, j, none⟩ = some v := hk ▸ cell_new _ _ _ _ _ h

theorem blk_keep {w w1 : World} {k : Nat} {o : Obj} {row : Option Nat} (h : w.heap[k]? = some o) (hg : w.grownBy w1 row) (hne : some k ≠ row) : w1.heap[k]? = some o := (hg.block k (blk_lt h) hne).trans h
theorem blk_below {w w1 : World} {k : Nat} {o : Obj} (h : w.heap[k]? = some o) (hb : Below w.heap.size w w1) : w1.heap[k]? = some o := (hb.block k (blk_lt h)).trans h
theorem blk_alloc {w : World} {k : Nat} {o : Obj} (h : w.heap[k]? = some o) (o' : Obj) : (w.alloc o').heap[k]? = some o := (Below.heap_alloc _ _ _ (blk_lt h)).trans h
theorem blk_far {w : World} {k : Nat} {o : Obj} {p : Addr} {u : Value} (h : w.heap[k]? = some o) (hne : k ≠ p.block) : (w.setCell p u).heap[k]? = some o := (Below.heap_setCell _ _ _ _ hne).trans h
theorem blk_new {w : World} {o : Obj} {k : Nat} (hk : k = w.heap.size) : (w.alloc o).heap[k]? = some o := hk ▸ heap_alloc_new w o
/-- A block of another type is not an owned row's. -/
theorem own_typed0 {w : World} {base : Nat} {e : TypeId} {size n : Nat} {v : Value} {xs : List Value} (h : w.ownsRow base e size v n xs) (k : Nat) (hk : v.ownBlock = some k) : base ≤ k ∧ ∃ cells, w.heap[k]? = some (.cells cells e (0, 0)) := by
  rcases h.2 with ⟨rfl, _⟩ | ⟨g, cap, cur, rfl, hg, hh, r⟩
  · simp [Value.ownBlock] at hk
  · have : g = k := by simpa [Value.ownBlock] using hk
    subst this
    exact ⟨hg, cur, hh⟩
theorem own_ne {w : World} {base : Nat} {e t : TypeId} {size n k : Nat} {v : Value} {xs : List Value} {cs : Array Value} {fr : Nat × Nat} (h : w.ownsRow base e size v n xs) (hb : w.heap[k]? = some (.cells cs t fr)) (hne : t ≠ e) : some k ≠ v.ownBlock := fun e' => by
  obtain ⟨_, cells, hc⟩ := own_typed0 h k e'.symm
  rw [hb] at hc
  injection hc with hc
  injection hc with _ hc
  exact hne hc
theorem own_keep {w w1 : World} {base : Nat} {e : TypeId} {size n : Nat} {v : Value} {xs : List Value} {row : Option Nat} (h : w.ownsRow base e size v n xs) (hg : w.grownBy w1 row) (hne : ∀ k, row = some k → some k ≠ v.ownBlock) : w1.ownsRow base e size v n xs :=
  h.kept hg (by
    cases hv : v.ownBlock with
    | none => exact .inl rfl
    | some k => exact .inr fun e => hne k e.symm hv.symm)
theorem grown_set (w : World) (p : Addr) (u : Value) : w.grownBy (w.setCell p u) (some p.block) := ⟨rfl, rfl, rfl, by simp [World.setCell], fun k _ hne => Below.heap_setCell _ _ _ _ (fun e => hne (by rw [e]))⟩
theorem infoInt : (Try.prog.info? 3).map (fun i => (i.zero, i.size, i.bytes)) = some (some (.int .i64 0), 1, 8) := by kernel_rfl
def icells (xs : List Int) : List Value := xs.map (Value.int .i64)
/-- A row of numbers of the call's own reads as that list. -/
theorem ints_reads {w : World} {base : Nat} {v : Value} {xs : List Int} (h : w.ownsRow base 3 1 v xs.length (icells xs)) : (Kd.int .i64).SL w v xs := by
  rcases h.2 with ⟨rfl, h0⟩ | ⟨g, cap, cur, rfl, _, hb, hc, hm, hs, ht⟩
  · have : xs = [] := List.eq_nil_of_length_eq_zero h0
    subst this
    exact ⟨none, 0, rfl, Nat.le_refl _, Kd.C_nil _ _ _⟩
  · refine ⟨_, cap, rfl, hc, by unfold maxLen at hm; omega, fun _ => ⟨_, rfl, fun j l hj => ⟨[.int .i64 l], rfl, fun i u hu => ?_⟩⟩⟩
    have hcell : ∀ q v, (icells xs)[q]? = some v → w.cell? ((⟨g, 0, none⟩ : Addr).add q) = some v := fun q v hq => h.cells (g := g) rfl q v hq
    match i, hu with
    | 0, hu => have : u = .int .i64 l := by simpa using hu.symm
               subst this
               exact hcell _ _ (by simpa [icells, Kd.int, Kd.scalar] using hj)
    | i + 1, hu => simp at hu

/-! ### rows of links -/
def lcells (ps : List Link) : List Value := ps.flatMap fun l => [.int .i64 l.to_, .int .i64 l.wt]
theorem lcells_length (ps : List Link) : (lcells ps).length = ps.length * 2 := by
  induction ps with
  | nil => rfl
  | cons p r ih => simp only [lcells, List.flatMap_cons, List.length_append, List.length_cons, List.length_nil] at *; omega
theorem lcells_append (a b : List Link) : lcells (a ++ b) = lcells a ++ lcells b := by simp [lcells]
theorem lcells_one (l : Link) : lcells [l] = [.int .i64 l.to_, .int .i64 l.wt] := rfl
theorem lcells_get {ps : List Link} {j : Nat} {l : Link} (h : ps[j]? = some l) : (lcells ps)[j * 2]? = some (.int .i64 l.to_) ∧ (lcells ps)[j * 2 + 1]? = some (.int .i64 l.wt) := by
  induction ps generalizing j with
  | nil => simp at h
  | cons p r ih =>
    cases j with
    | zero => have : p = l := by simpa using h
              subst this; exact ⟨rfl, rfl⟩
    | succ j =>
      have := ih (j := j) (by simpa using h)
      rw [show (j + 1) * 2 = j * 2 + 2 from by omega]
      exact this
theorem lcells_oneCell (ps : List Link) : ∀ u ∈ lcells ps, u.oneCell' = true := by
  intro u hu
  obtain ⟨l, _, hl⟩ := List.mem_flatMap.1 hu
  simp at hl
  rcases hl with rfl | rfl <;> rfl
/-- A row of links of the call's own reads as that list. -/
theorem row_reads {w : World} {base : Nat} {v : Value} {ps : List Link} (h : w.ownsRow base 60 2 v ps.length (lcells ps)) : kLink.SL w v ps := by
  rcases h.2 with ⟨rfl, h0⟩ | ⟨g, cap, cur, rfl, _, hb, hc, hm, hs, ht⟩
  · have : ps = [] := List.eq_nil_of_length_eq_zero h0
    subst this
    exact ⟨none, 0, rfl, Nat.le_refl _, Kd.C_nil _ _ _⟩
  · refine ⟨_, cap, rfl, hc, by unfold maxLen at hm; omega, fun _ => ⟨_, rfl, fun j l hj => ⟨[.int .i64 l.to_, .int .i64 l.wt], ⟨[.int .i64 l.to_], [.int .i64 l.wt], rfl, rfl, rfl⟩, fun i u hu => ?_⟩⟩⟩
    have hcell : ∀ q v, (lcells ps)[q]? = some v → w.cell? ((⟨g, 0, none⟩ : Addr).add q) = some v := fun q v hq => h.cells (g := g) rfl q v hq
    obtain ⟨h1, h2⟩ := lcells_get hj
    match i, hu with
    | 0, hu => have : u = .int .i64 l.to_ := by simpa using hu.symm
               subst this; exact hcell _ _ h1
    | 1, hu => have : u = .int .i64 l.wt := by simpa using hu.symm
               subst this; exact hcell _ _ h2
    | i + 2, hu => simp at hu

/-- Each row is the call's own; no two rows lie in one block. -/
structure Rows (w : World) (base : Nat) (vs : List Value) (rows : List (List Link)) : Prop where
  len : vs.length = rows.length
  own : ∀ (u : Nat) v ps, vs[u]? = some v → rows[u]? = some ps → w.ownsRow base 60 2 v ps.length (lcells ps)
  apart : ∀ (u u' : Nat) v v', vs[u]? = some v → vs[u']? = some v' → u ≠ u' → v.ownBlock = none ∨ v.ownBlock ≠ v'.ownBlock
  nil : ∀ (u : Nat) v ps, vs[u]? = some v → rows[u]? = some ps → ps.length = 0 → v = .slice none 0 0
theorem own_typed {w : World} {base : Nat} {e : TypeId} {size n : Nat} {v : Value} {xs : List Value} (h : w.ownsRow base e size v n xs) (k : Nat) (hk : v.ownBlock = some k) : base ≤ k ∧ ∃ cells, w.heap[k]? = some (.cells cells e (0, 0)) := by
  rcases h.2 with ⟨rfl, _⟩ | ⟨g, cap, cur, rfl, hg, hh, r⟩
  · simp [Value.ownBlock] at hk
  · have : g = k := by simpa [Value.ownBlock] using hk
    subst this
    exact ⟨hg, cur, hh⟩
theorem own_lt {w : World} {base : Nat} {e : TypeId} {size n : Nat} {v : Value} {xs : List Value} (h : w.ownsRow base e size v n xs) (k : Nat) (hk : v.ownBlock = some k) : k < w.heap.size := by
  obtain ⟨_, _, h⟩ := own_typed h k hk
  exact blk_lt h
/-- Another block than the rows' has been written. -/
theorem Rows.keep {w w1 : World} {base : Nat} {vs : List Value} {rows : List (List Link)} {row : Option Nat} (h : Rows w base vs rows) (hg : w.grownBy w1 row) (hn : ∀ v ∈ vs, v.ownBlock = none ∨ v.ownBlock ≠ row) : Rows w1 base vs rows :=
  ⟨h.len, fun u v ps h1 h2 => (h.own u v ps h1 h2).kept hg (hn v (List.mem_of_getElem? h1)), h.apart, h.nil⟩
theorem Rows.alloc {w : World} {base : Nat} {vs : List Value} {rows : List (List Link)} (h : Rows w base vs rows) (o : Obj) : Rows (w.alloc o) base vs rows := h.keep (World.grownBy_alloc w o none) (fun v _ => by cases v.ownBlock <;> simp)
theorem Rows.drew {w : World} {base : Nat} {vs : List Value} {rows : List (List Link)} (h : Rows w base vs rows) : Rows w.drew base vs rows := ⟨h.len, h.own, h.apart, h.nil⟩
/-- One row has grown, in its own block or into a new one. -/
theorem Rows.upd {w w1 : World} {base : Nat} {vs : List Value} {rows : List (List Link)} {a : Nat} {va v' : Value} {r' : List Link} (h : Rows w base vs rows) (ha : vs[a]? = some va) (hg : w.grownBy w1 va.ownBlock)
    (ho : w1.ownsRow base 60 2 v' r'.length (lcells r')) (hne : r'.length ≠ 0) (hat : v'.ownBlock = none ∨ v'.ownBlock = va.ownBlock ∨ ∃ g, v'.ownBlock = some g ∧ w.heap.size ≤ g) : Rows w1 base (vs.set a v') (rows.set a r') := by
  have hal : a < vs.length := (List.getElem?_eq_some_iff.1 ha).1
  have other : ∀ u v, vs[u]? = some v → u ≠ a → v.ownBlock = none ∨ (v.ownBlock ≠ va.ownBlock ∧ v.ownBlock ≠ v'.ownBlock) := fun u v hu hne => by
    rcases h.apart u a v va hu ha hne with h1 | h1
    · exact .inl h1
    · cases hv : v.ownBlock with
      | none => exact .inl rfl
      | some k =>
        refine .inr ⟨hv ▸ h1, ?_⟩
        rcases hat with h2 | h2 | ⟨g, h2, h3⟩
        · rw [h2]; simp
        · rw [h2]; exact hv ▸ h1
        · rw [h2]
          intro e
          injection e with e
          have hul : u < rows.length := by rw [← h.len]; exact (List.getElem?_eq_some_iff.1 hu).1
          have := own_lt (h.own u v _ hu (List.getElem?_eq_getElem hul)) k hv
          omega
  refine ⟨by simp [h.len], ?_, ?_, ?_⟩
  · intro u v ps h1 h2
    rw [List.getElem?_set] at h1 h2
    by_cases hu : a = u
    · subst hu
      rw [if_pos rfl, if_pos hal] at h1
      rw [if_pos rfl, if_pos (by rw [← h.len]; exact hal)] at h2
      cases h1; cases h2
      exact ho
    · rw [if_neg hu] at h1 h2
      refine (h.own u v ps h1 h2).kept hg ?_
      rcases other u v h1 (Ne.symm hu) with h3 | h3
      · exact .inl h3
      · exact .inr h3.1
  · intro u u' v v2 h1 h2 hne
    rw [List.getElem?_set] at h1 h2
    by_cases hu : a = u
    · subst hu
      rw [if_pos rfl, if_pos hal] at h1
      rw [if_neg hne] at h2
      cases h1
      rcases other u' v2 h2 (Ne.symm hne) with h3 | h3
      · cases hv : v'.ownBlock with
        | none => exact .inl rfl
        | some k => exact .inr (by rw [h3]; simp)
      · exact .inr (Ne.symm h3.2)
    · rw [if_neg hu] at h1
      by_cases hu' : a = u'
      · subst hu'
        rw [if_pos rfl, if_pos hal] at h2
        cases h2
        rcases other u v h1 hne with h3 | h3
        · exact .inl h3
        · exact .inr h3.2
      · rw [if_neg hu'] at h2
        exact h.apart u u' v v2 h1 h2 hne
  · intro u v ps h1 h2 h0
    rw [List.getElem?_set] at h1 h2
    by_cases hu : a = u
    · subst hu
      rw [if_pos rfl, if_pos (by rw [← h.len]; exact hal)] at h2
      cases h2
      exact absurd h0 hne
    · rw [if_neg hu] at h1 h2
      exact h.nil u v ps h1 h2 h0

/-- The ports of a graph in the making: block P holds the rows' values. -/
structure PortsAt (w : World) (base P : Nat) (vs : List Value) (rows : List (List Link)) : Prop where
  blk : w.heap[P]? = some (.cells vs.toArray 52 (0, 0))
  rows : Rows w base vs rows
  hP : base ≤ P
theorem PortsAt.far {w : World} {base P : Nat} {vs : List Value} {rows : List (List Link)} (h : PortsAt w base P vs rows) : ∀ v ∈ vs, v.ownBlock ≠ some P := by
  intro v hv e
  obtain ⟨u, hu, rfl⟩ := List.mem_iff_getElem.1 hv
  obtain ⟨_, cells, hc⟩ := own_typed (h.rows.own u vs[u] _ (List.getElem?_eq_getElem hu) (List.getElem?_eq_getElem (by rw [← h.rows.len]; exact hu))) P e
  rw [h.blk] at hc
  injection hc with hc
  injection hc with _ hc
  exact absurd hc (by decide)
theorem PortsAt.alloc {w : World} {base P : Nat} {vs : List Value} {rows : List (List Link)} (h : PortsAt w base P vs rows) (o : Obj) : PortsAt (w.alloc o) base P vs rows :=
  ⟨(Below.heap_alloc w o _ (blk_lt h.blk)).trans h.blk, h.rows.alloc o, h.hP⟩
theorem PortsAt.below {w w1 : World} {base P : Nat} {vs : List Value} {rows : List (List Link)} (h : PortsAt w base P vs rows) (hb : Below w.heap.size w w1) : PortsAt w1 base P vs rows :=
  ⟨(hb.block P (blk_lt h.blk)).trans h.blk, h.rows.keep (row := none) ⟨hb.os, hb.tape, hb.output, hb.size, fun k hk _ => hb.block k hk⟩ (fun v _ => by cases v.ownBlock <;> simp), h.hP⟩
/-- A store of a row's new value into block P. -/
theorem PortsAt.store {w1 : World} {base P : Nat} {vs : List Value} {rows : List (List Link)} {a : Nat} {v' : Value} (hb : w1.heap[P]? = some (.cells vs.toArray 52 (0, 0))) (ha : a < vs.length) (hr : Rows w1 base (vs.set a v') rows) (hP : base ≤ P) : PortsAt (w1.setCell ⟨P, a, none⟩ v') base P (vs.set a v') rows := by
  have hb' := blk_set a v' hb (by simpa using ha)
  have hb2 : (w1.setCell ⟨P, a, none⟩ v').heap[P]? = some (.cells (vs.set a v').toArray 52 (0, 0)) := by rw [hb']; simp
  refine ⟨hb2, hr.keep (row := some P) ⟨rfl, rfl, rfl, by simp [World.setCell], fun k hk hne => Below.heap_setCell _ _ _ _ (fun e => hne (by rw [e]))⟩ ?_, hP⟩
  intro v hv
  right
  intro e
  obtain ⟨u, hu, rfl⟩ := List.mem_iff_getElem.1 hv
  obtain ⟨_, cells, hc⟩ := own_typed (hr.own u _ _ (List.getElem?_eq_getElem hu) (List.getElem?_eq_getElem (by rw [← hr.len]; exact hu))) P e
  rw [hb] at hc
  injection hc with hc
  injection hc with _ hc
  exact absurd hc (by decide)
theorem PortsAt.reads {w : World} {base P : Nat} {vs : List Value} {rows : List (List Link)} (h : PortsAt w base P vs rows) (hn : rows.length ≤ 1000) : kLink.slice.C w (some ⟨P, 0, none⟩) rows := by
  refine ⟨by omega, fun _ => ⟨_, rfl, fun j ps hj => ?_⟩⟩
  have hjl : j < vs.length := by rw [h.rows.len]; exact (List.getElem?_eq_some_iff.1 hj).1
  refine ⟨[vs[j]], ⟨vs[j], rfl, row_reads (h.rows.own j _ ps (List.getElem?_eq_getElem hjl) hj)⟩, fun i u hu => ?_⟩
  cases i with
  | succ i => simp at hu
  | zero =>
    have : u = vs[j] := by simpa using hu.symm
    subst this
    have e : (⟨P, 0, none⟩ : Addr).add (j * kLink.slice.sz + 0) = ⟨P, j, none⟩ := by
      show (⟨P, 0, none⟩ : Addr).add (j * 1 + 0) = _
      unfold Addr.add
      split <;> simp_all
    rw [e]
    exact blk_cell h.blk (by simp [List.getElem?_eq_getElem hjl])

/-! ### for the regions of open order -/
theorem cell_far {w : World} {p q : Addr} {u v : Value} (h : w.cell? q = some v) (hne : q.block ≠ p.block) : (w.setCell p u).cell? q = some v := by
  rw [← h]
  exact World.cell?_of_block (w := w) (Below.heap_setCell w p u _ hne)
theorem port_set {w : World} {P : Nat} {vs : List Value} {t : TypeId} {a : Nat} {v : Value} (h : w.heap[P]? = some (.cells vs.toArray t (0, 0))) (ha : a < vs.length) : (w.setCell ⟨P, a, none⟩ v).heap[P]? = some (.cells (vs.set a v).toArray t (0, 0)) := by
  rw [blk_set a v h (by simpa using ha)]
  simp
theorem port_cell {w : World} {P : Nat} {vs : List Value} {t : TypeId} {a : Nat} {v : Value} (h : w.heap[P]? = some (.cells vs.toArray t (0, 0))) (ha : vs[a]? = some v) : w.cell? ⟨P, a, none⟩ = some v := blk_cell h (by simpa using ha)
theorem Rows.store {w : World} {base P : Nat} {vs us : List Value} {rows : List (List Link)} {a : Nat} {u : Value} (h : Rows w base us rows) (hb : w.heap[P]? = some (.cells vs.toArray 52 (0, 0))) : Rows (w.setCell ⟨P, a, none⟩ u) base us rows := by
  refine h.keep (row := some P) ⟨rfl, rfl, rfl, by simp [World.setCell], fun k hk hne => Below.heap_setCell _ _ _ _ (fun e => hne (by rw [e]))⟩ fun v hv => .inr fun e => ?_
  obtain ⟨u, hu, rfl⟩ := List.mem_iff_getElem.1 hv
  obtain ⟨_, cells, hc⟩ := own_typed (h.own u _ _ (List.getElem?_eq_getElem hu) (List.getElem?_eq_getElem (by rw [← h.len]; exact hu))) P e
  rw [hb] at hc
  injection hc with hc
  injection hc with _ hc
  exact absurd hc (by decide)
/-- A new block of one link is a row of the call's own. -/
theorem own_fresh {w : World} {base k : Nat} {l : Link} (h : w.heap[k]? = some (.cells #[.int .i64 l.to_, .int .i64 l.wt] 60 (0, 0))) (hb : base ≤ k) : w.ownsRow base 60 2 (.slice (some ⟨k, 0, none⟩) 1 1) 1 (lcells [l]) :=
  ⟨rfl, .inr ⟨k, 1, _, rfl, hb, h, Nat.le_refl _, by decide, rfl, rfl⟩⟩
/-- append(v, vx...), both rows of the call's own, v not empty. -/
theorem step_append_row {P : Program} {ops : Array Oper} {o : Oper} {a : Act} {w : World} {K : Act → World → Prop} {Q : Exit → Act → World → Prop} {E : Prop} (hgd : o.guard = none) (s x : Operand) (t : TypeId)
    (ho : o.op = .call { callee := .builtin .append, args := #[s, x], argTypes := #[t, t] })
    (base : Nat) (e : TypeId) (i : TypeInfo) (z : Value) (size bytes : Nat) (ht : P.underlying t = some (.slice e)) (hi : P.info? e = some i) (hz : i.zero = some z)
    (hsize : i.size = size) (hby : i.bytes = bytes) (hzs : z.cells.size = size) (hsz : 0 < size)
    (v : Value) (n : Nat) (xs : List Value) (hs : a.eval s = v) (hown : w.ownsRow base e size v n xs) (hn : 0 < n)
    (vx : Value) (m : Nat) (ys : List Value) (hx : a.eval x = vx) (hox : w.ownsRow base e size vx m ys) (hxn : m = 0 → vx = .slice none 0 0) (h1 : ∀ u ∈ ys, u.oneCell' = true)
    (h63 : n + m ≤ maxLen) (hbytes : (n + m) * bytes ≤ 140737488355328) (hbase : base ≤ w.heap.size)
    (h : ∀ g cap w', w'.ownsRow base e size (.slice (some ⟨g, 0, none⟩) (n + m) cap) (n + m) (xs ++ ys) → w.grownBy w' v.ownBlock → (v.ownBlock = some g ∨ g = w.heap.size) → g < w'.heap.size → K (a.put o.dst (.slice (some ⟨g, 0, none⟩) (n + m) cap)) w') :
    if Region.wanted o (yielded ops a.tmps) = true then Oper.wp P o a w K Q else E := by
  rcases hox.2 with ⟨rfl, rfl⟩ | ⟨gx, capx, cur, rfl, _, hgx, hmx, _, _, _⟩
  · have hys : ys = [] := List.eq_nil_of_length_eq_zero (by simpa using hox.1)
    subst hys
    obtain ⟨g, cap, rfl, _, _⟩ := hown.form hn
    have hw : Region.wanted o (yielded ops a.tmps) = true := by simp [Region.wanted, hgd]
    rw [if_pos hw]
    have hrun : (Builtin.append_ #[t, t] o.type #[.slice (some ⟨g, 0, none⟩) n cap, .slice none 0 0]).run P w = .ok (.slice (some ⟨g, 0, none⟩) n cap) w := by
      obtain ⟨_, hcap⟩ : True ∧ n ≤ cap := by
        rcases hown.2 with ⟨h0, _⟩ | ⟨_, cap', _, hv, _, _, h3, _⟩
        · simp at h0
        · exact ⟨trivial, by simp at hv; omega⟩
      simp [Builtin.append_, run_underlying ht, sizeOf, typeInfo, hi, Builtin.lenOf, Builtin.firstCells, loadCells, hcap, storeCells]
    unfold Oper.wp execOp
    simp only [ho, resolve, invoke, builtin, Sem.run_bind, Sem.run_pure, Result.andThen_ok, List.map_toArray, List.map_cons, List.map_nil, hs, hx, hrun]
    have h0 := h g cap w (by simpa using hown) (World.grownBy.refl w _) (.inl rfl) (own_lt hown g rfl)
    rw [Nat.add_zero] at h0
    exact h0
  · by_cases hm : m = 0
    · exact absurd (hxn hm) (by simp)
    · exact step_append_lies w hgd s x t ho base e i z size bytes ht hi hz hsize hby hzs hsz v n xs hs hown ⟨gx, 0, none⟩ m capx ys hx hox.1 (fun j u hj => hox.cells (g := gx) rfl j u hj) h1 (by omega) h63 hbytes hbase w.heap.size rfl h

/-- Blocks of other kinds than links' rows and ports stay as they are. -/
def Spared (w w' : World) : Prop := ∀ (I : Nat) (cs : Array Value) (T : TypeId), w.heap[I]? = some (.cells cs T (0, 0)) → T ≠ 60 → T ≠ 52 → w'.heap[I]? = some (.cells cs T (0, 0))
theorem Spared.refl (w : World) : Spared w w := fun _ _ _ h _ _ => h
theorem Spared.trans {a b c : World} (h : Spared a b) (k : Spared b c) : Spared a c := fun I cs T h1 h2 h3 => k I cs T (h I cs T h1 h2 h3) h2 h3
theorem Spared.below {w w1 w2 : World} (h : Spared w w1) (hb : Below w1.heap.size w1 w2) : Spared w w2 := fun I cs T h1 h2 h3 => (hb.block I (blk_lt (h I cs T h1 h2 h3))).trans (h I cs T h1 h2 h3)
theorem Spared.alloc {w w1 : World} (h : Spared w w1) (o : Obj) : Spared w (w1.alloc o) := h.below ((Below.refl _ _).alloc (Nat.le_refl _) o)
theorem Spared.drew {w w1 : World} (h : Spared w w1) : Spared w w1.drew := fun I cs T h1 h2 h3 => h I cs T h1 h2 h3
theorem Spared.grown {w w1 w2 : World} {row : Option Nat} (h : Spared w w1) (hg : w1.grownBy w2 row) (hr : ∀ k, row = some k → ∃ cells, w1.heap[k]? = some (.cells cells 60 (0, 0))) : Spared w w2 := fun I cs T h1 h2 h3 => by
  have h4 := h I cs T h1 h2 h3
  refine (hg.block I (blk_lt h4) fun e => ?_).trans h4
  obtain ⟨cells, hc⟩ := hr I e.symm
  rw [h4] at hc
  injection hc with hc
  injection hc with _ hc
  exact h2 hc
theorem Spared.set {w w1 : World} {P a : Nat} {cells : Array Value} {u : Value} (h : Spared w w1) (hP : w1.heap[P]? = some (.cells cells 52 (0, 0))) : Spared w (w1.setCell ⟨P, a, none⟩ u) := fun I cs T h1 h2 h3 => by
  have h4 := h I cs T h1 h2 h3
  refine (Below.heap_setCell _ _ _ _ fun e => ?_).trans h4
  have e' : I = P := e
  rw [e', hP] at h4
  injection h4 with h4
  injection h4 with _ h4
  exact h3 h4.symm
end Go.Proofs.Ythapikakneikbaa
