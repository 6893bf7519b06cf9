/-
  Plain data of the program: links, graphs, and what a valid graph is. No program and no memory in this text.
-/
namespace Go.Proofs.Ythapikakneikbaa

structure Link where
  to_ : Int
  wt : Int
instance : DecidableEq Link := fun a b => if h : a.to_ = b.to_ ∧ a.wt = b.wt then isTrue (by cases a; cases b; simp_all) else isFalse (by rintro rfl; simp at h)

structure Graph where
  ids : List Int
  ports : List (List Link)

/-- A link as it is seen from one of its ends: that end, the other end, the weight. -/
structure Edge where
  fr : Int
  to_ : Int
  wt : Int
instance : DecidableEq Edge := fun a b => if h : a.fr = b.fr ∧ a.to_ = b.to_ ∧ a.wt = b.wt then isTrue (by cases a; cases b; simp_all) else isFalse (by rintro rfl; simp at h)

/-- The links of node v, from port 0 on. -/
def rowEdges (v : Int) (ps : List Link) : List Edge := ps.map fun l => ⟨v, l.to_, l.wt⟩
def edgesFrom : Int → List (List Link) → List Edge
  | _, [] => []
  | v, ps :: r => rowEdges v ps ++ edgesFrom (v + 1) r
def Graph.edges (g : Graph) : List Edge := edgesFrom 0 g.ports

theorem edgesFrom_append (v : Int) (a b : List (List Link)) : edgesFrom v (a ++ b) = edgesFrom v a ++ edgesFrom (v + a.length) b := by
  induction a generalizing v with
  | nil => simp [edgesFrom]
  | cons p r ih => simp only [List.cons_append, edgesFrom, ih, List.append_assoc, List.length_cons]; congr 3; omega

theorem mem_edgesFrom {v : Int} {P : List (List Link)} {e : Edge} : e ∈ edgesFrom v P ↔ ∃ (k : Nat) (ps : List Link), P[k]? = some ps ∧ e.fr = v + k ∧ (⟨e.to_, e.wt⟩ : Link) ∈ ps := by
  induction P generalizing v with
  | nil => simp [edgesFrom]
  | cons p r ih =>
    simp only [edgesFrom, List.mem_append, ih, rowEdges, List.mem_map]
    constructor
    · rintro (⟨l, hl, rfl⟩ | ⟨k, ps, h1, h2, h3⟩)
      · exact ⟨0, p, rfl, by simp, hl⟩
      · exact ⟨k + 1, ps, by simpa using h1, by rw [h2]; omega, h3⟩
    · rintro ⟨k, ps, h1, h2, h3⟩
      cases k with
      | zero =>
        have e1 : p = ps := by simpa using h1
        subst e1
        exact .inl ⟨_, h3, by cases e; simp at h2; simp [h2]⟩
      | succ k => exact .inr ⟨k, ps, by simpa using h1, by rw [h2]; omega, h3⟩

/-- The ends of a link and its weight are in range; n: the number of nodes. -/
def Edge.ok (n : Nat) (e : Edge) : Bool := decide (0 ≤ e.to_ ∧ e.to_ < n ∧ e.to_ ≠ e.fr ∧ 1 ≤ e.wt ∧ e.wt ≤ 15)
def Edge.key (e : Edge) : Int × Int := (e.fr, e.to_)

/-- Is there the same link as it is seen from its other end? -/
def Edge.back (E : List Edge) (e : Edge) : Bool := decide ((⟨e.to_, e.fr, e.wt⟩ : Edge) ∈ E)

def okID (x : Int) : Bool := decide (0 ≤ x ∧ x ≤ 255)

/-- The list has no element twice. -/
def apart {α : Type} [DecidableEq α] (l : List α) : Bool := decide l.Nodup

def Graph.valid (g : Graph) : Bool :=
  decide (1 ≤ g.ports.length ∧ g.ports.length ≤ 24 ∧ g.ids.length = g.ports.length) && g.ids.all okID && apart g.ids &&
    g.edges.all (Edge.ok g.ports.length) && apart (g.edges.map Edge.key) && g.edges.all (Edge.back g.edges)

theorem valid_iff (g : Graph) : g.valid = true ↔ (1 ≤ g.ports.length ∧ g.ports.length ≤ 24 ∧ g.ids.length = g.ports.length) ∧ (∀ x ∈ g.ids, okID x = true) ∧ g.ids.Nodup ∧
    (∀ e ∈ g.edges, e.ok g.ports.length = true) ∧ (g.edges.map Edge.key).Nodup ∧ ∀ e ∈ g.edges, e.back g.edges = true := by
  simp [Graph.valid, apart, and_assoc]

end Go.Proofs.Ythapikakneikbaa
