/-
  The two maps of graph.Valid: their keys' laws, and what a look-up gives, in the words of lists.
-/
import Derived.Test.YthapikakneikbaaBase
import Derived.Test.YthapikakneikbaaSpec
import Derived.Maps.RangeWalk
import Derived.Maps.OwnSet
import Derived.Maps.OwnOps
import Derived.DeepKeys4
namespace Go.Proofs.Ythapikakneikbaa
open Go.RowKit Go.Maps

theorem lawInt : Keyed Try.prog 3 := int_keyed Try.underlying3
theorem laidOut : laidOutB Try.prog = true := by kernel_rfl
theorem rowEnd : (84 : TypeId) < Try.prog.types.size := of_decide_eq_true (by kernel_rfl)
theorem cellsEnd : Try.prog.cellsOf 84 = 2 := by kernel_rfl
theorem wideEnd : (match Try.prog.underlying 84 with | some (.array _ _) | some (.struct _) => true | _ => false) = true := by kernel_rfl
theorem lawEnd : Keyed Try.prog 84 := Keyed.of_law (deep_law_laid laidOut (m := 3) (by omega) rowEnd (by kernel_rfl) wideEnd)
theorem keyEnd : Try.prog.keyType 84 = true := by kernel_rfl
theorem zeroBool (w : World) : (zeroValue 4).run Try.prog w = .ok (.bool false) w := by kernel_rfl
theorem zeroInt (w : World) : (zeroValue 3).run Try.prog w = .ok (.int .i64 0) w := by kernel_rfl

/-- What the key end{a, b} reads as. -/
def ek (a b : Int) : Lit := .string (keyBytes [.int .i64 a, .int .i64 b])
theorem wf_of {a : Int} (h0 : 0 ≤ a) (h1 : a ≤ 4294967295) : (Lit.int .i64 a).wf = true := by
  have h2 : (IntKind.i64.min : Int) ≤ a := Int.le_trans (by decide) h0
  have h3 : a ≤ (IntKind.i64.max : Int) := Int.le_trans h1 (by decide)
  show (decide (IntKind.i64.min ≤ a) && decide (a ≤ IntKind.i64.max)) = true
  rw [decide_eq_true h2, decide_eq_true h3]
  rfl
theorem typesPos : ∃ m, Try.prog.types.size = m + 1 := Nat.exists_eq_succ_of_ne_zero (Nat.ne_of_gt (Nat.lt_of_le_of_lt (Nat.zero_le _) rowEnd))
theorem cellsInt : Try.prog.cellsOf 3 = 1 := by kernel_rfl
/-- What a cell of an int reads as, inside a key. -/
def litInt : Value → Option (List Lit)
  | .int q n => if q = IntKind.i64 ∧ (Lit.int q n).wf = true then some [Lit.int q n] else none
  | _ => none
theorem litInt_inv {v : Value} {l : List Lit} (h : litInt v = some l) : ∃ a, v = .int .i64 a ∧ (Lit.int .i64 a).wf = true ∧ l = [.int .i64 a] := by
  cases v <;> simp [litInt] at h
  obtain ⟨⟨rfl, h1⟩, rfl⟩ := h
  exact ⟨_, rfl, h1, rfl⟩
theorem keyLits_int (m : Nat) (v : Value) : Try.prog.keyLits (m + 1) 3 [v] = litInt v := by
  unfold Program.keyLits
  rw [Try.underlying3]
  cases v <;> try rfl
  rename_i k n
  simp only [litInt]
  by_cases hk : k = IntKind.i64
  · subst hk; simp
  · simp [hk]
theorem keyLits_end (v0 v1 : Value) : Try.prog.keyLits (Try.prog.types.size + 1) 84 [v0, v1] = (litInt v0).bind fun l0 => (litInt v1).map fun l1 => l0 ++ l1 := by
  obtain ⟨m, hm⟩ := typesPos
  rw [hm]
  unfold Program.keyLits
  rw [Try.underlying84]
  have hc : ([v0, v1] : List Value).length = Try.prog.cellsOf 84 := by rw [cellsEnd]; rfl
  simp only [hc, true_and]
  rw [if_pos (by simp)]
  simp only [List.mapM_cons, List.mapM_nil, List.drop_zero, List.drop_succ_cons, cellsInt, List.take_succ_cons, List.take_zero, keyLits_int]
  cases litInt v0 <;> cases litInt v1 <;> simp
theorem keyOf_end {a b : Int} (ha : (Lit.int .i64 a).wf = true) (hb : (Lit.int .i64 b).wf = true) : keyOf Try.prog 84 (.agg #[.int .i64 a, .int .i64 b]) = some (ek a b) := by
  have hf : (Value.agg #[.int .i64 a, .int .i64 b]).formed Try.prog 84 = true := by simp [Value.formed, Try.underlying84, cellsEnd]
  unfold keyOf
  rw [Try.underlying84]
  simp only [keyEnd, hf, Bool.and_self, if_true]
  show (Try.prog.keyLits (Try.prog.types.size + 1) 84 [.int .i64 a, .int .i64 b]).map _ = _
  rw [keyLits_end]
  simp [litInt, ha, hb, ek]
theorem keyOf_end_inv {v : Value} {l : Lit} (h : keyOf Try.prog 84 v = some l) : ∃ a b, v = .agg #[.int .i64 a, .int .i64 b] ∧ (Lit.int .i64 a).wf = true ∧ (Lit.int .i64 b).wf = true ∧ l = ek a b := by
  obtain ⟨xs, L, rfl, hL, rfl⟩ := keyOf_top wideEnd h
  obtain ⟨xs⟩ := xs
  have hlen : xs.length = 2 := by
    unfold keyOf at h
    rw [Try.underlying84] at h
    simp only [keyEnd, Bool.true_and] at h
    split at h
    · rename_i hf
      simpa [Value.formed, Try.underlying84, cellsEnd] using hf
    · cases h
  match xs, hlen with
  | [v0, v1], _ =>
    rw [keyLits_end] at hL
    obtain ⟨l0, h0, hL⟩ := Option.bind_eq_some_iff.1 hL
    obtain ⟨l1, h1, rfl⟩ := Option.map_eq_some_iff.1 hL
    obtain ⟨a, rfl, ha, rfl⟩ := litInt_inv h0
    obtain ⟨b, rfl, hb, rfl⟩ := litInt_inv h1
    exact ⟨a, b, rfl, ha, hb, rfl⟩
theorem ek_inj {a b a' b' : Int} (ha : (Lit.int .i64 a).wf = true) (hb : (Lit.int .i64 b).wf = true) (ha' : (Lit.int .i64 a').wf = true) (hb' : (Lit.int .i64 b').wf = true) (h : ek a b = ek a' b') : a = a' ∧ b = b' := by
  have h1 := lawEnd.inj (keyOf_end ha hb) (h ▸ keyOf_end ha' hb')
  simpa using h1
theorem ek_key (a b : Int) : WideAt.IsKeyLit (ek a b) := trivial

/-! ### the set of identifiers: map[int]bool -/
/-- Block b is a map[int]bool that says true at the numbers of l alone. -/
def HasIDs (w : World) (b : Nat) (l : List Int) : Prop := ∃ D : DataW Unit, w.ownsMap Try.prog 3 (plainElem Try.prog 4) b l.length D ∧
  (∀ x ∈ l, (Lit.int .i64 x).wf = true) ∧ ∀ x, (Lit.int .i64 x).wf = true → D.atKey (.int .i64 x) (.lit (.bool false)) = .lit (.bool (decide (x ∈ l)))
theorem HasIDs.made (w : World) : HasIDs (w.alloc (.map #[] 0)) w.heap.size [] := ⟨_, World.ownsMap_made _ _ _ _, by simp, fun x _ => by simp [DataW.atKey]⟩
theorem HasIDs.kept {w w' : World} {b : Nat} {l : List Int} {row : Option Nat} (h : HasIDs w b l) (hg : w.grownBy w' row) (hne : some b ≠ row) : HasIDs w' b l := by
  obtain ⟨D, h1, h2, h3⟩ := h
  exact ⟨D, h1.kept hg hne, h2, h3⟩
/-- A look-up. -/
theorem HasIDs.look {w : World} {b : Nat} {l : List Int} (h : HasIDs w b l) {x : Int} (hx : (Lit.int .i64 x).wf = true) : (Instr.lookup 81 (.map (some b)) (.int .i64 x) false).run Try.prog w = .ok (.bool (decide (x ∈ l))) w := by
  obtain ⟨D, h1, _, h3⟩ := h
  obtain ⟨v, ps, hrun, hv⟩ := h1.lookup lawInt Try.underlying81 (zeroBool w) (plainElem_bool Try.underlying4 false) (keyOf_int_mk Try.underlying3 hx)
  rw [h3 x hx] at hv
  have : v = .bool (decide (x ∈ l)) := by
    unfold plainElem at hv
    rw [Try.underlying4] at hv
    cases v <;> simp at hv
    rw [hv.1]
  rw [hrun, this]
/-- A store. -/
theorem HasIDs.put {w' : World} {b : Nat} {l : List Int} {D : DataW Unit} (h2 : ∀ x ∈ l, (Lit.int .i64 x).wf = true) (h3 : ∀ x, (Lit.int .i64 x).wf = true → D.atKey (.int .i64 x) (.lit (.bool false)) = .lit (.bool (decide (x ∈ l))))
    (hm : IsMap D) {y : Int} (hy : (Lit.int .i64 y).wf = true) (h : w'.ownsMap Try.prog 3 (plainElem Try.prog 4) b (l.length + 1) (D.put (.int .i64 y) (.lit (.bool true)))) : HasIDs w' b (l ++ [y]) := by
  refine ⟨_, by simpa using h, ?_, ?_⟩
  · intro x hx
    rcases List.mem_append.1 hx with hx | hx
    · exact h2 x hx
    · rw [List.mem_singleton.1 hx]; exact hy
  · intro x hx
    by_cases e : x = y
    · subst e
      rw [atKey_put_same hm (show WideAt.IsKeyLit (.int .i64 x) from trivial)]
      simp
    · rw [atKey_put_other (by simpa using e), h3 x hx]
      simp [e]

/-! ### the weights: map[end]int -/
/-- D says of each link in E its weight, and nothing of others. -/
structure Says (D : DataW Unit) (E : List Edge) : Prop where
  isMap : IsMap D
  at_ : ∀ e ∈ E, ∀ z, D.atKey (ek e.fr e.to_) z = .lit (.int .i64 e.wt)
  no : ∀ a b, (Lit.int .i64 a).wf = true → (Lit.int .i64 b).wf = true → (a, b) ∉ E.map Edge.key → has D (ek a b) = false
  wf : ∀ e ∈ E, (Lit.int .i64 e.fr).wf = true ∧ (Lit.int .i64 e.to_).wf = true
theorem Says.nil : Says (.map []) [] := ⟨isMap_empty, by simp, fun _ _ _ _ _ => rfl, by simp⟩
theorem Says.put {D : DataW Unit} {E : List Edge} (h : Says D E) (e : Edge) (hf : (Lit.int .i64 e.fr).wf = true) (ht : (Lit.int .i64 e.to_).wf = true) (hn : e.key ∉ E.map Edge.key) :
    Says (D.put (ek e.fr e.to_) (.lit (.int .i64 e.wt))) (E ++ [e]) := by
  refine ⟨h.isMap.put _ _, ?_, ?_, ?_⟩
  · intro d hd z
    rcases List.mem_append.1 hd with hd | hd
    · have hne : ek d.fr d.to_ ≠ ek e.fr e.to_ := fun he => by
        obtain ⟨h1, h2⟩ := ek_inj (h.wf d hd).1 (h.wf d hd).2 hf ht he
        exact hn (List.mem_map.2 ⟨d, hd, by simp [Edge.key, h1, h2]⟩)
      rw [atKey_put_other hne]
      exact h.at_ d hd z
    · rw [List.mem_singleton.1 hd]
      exact atKey_put_same h.isMap (ek_key _ _) _ _
  · intro a b ha hb hno
    have hne : ek a b ≠ ek e.fr e.to_ := fun he => by
      obtain ⟨h1, h2⟩ := ek_inj ha hb hf ht he
      exact hno (by simp [Edge.key, h1, h2])
    rw [has_put_other hne]
    exact h.no a b ha hb (fun hm => hno (by simp only [List.map_append, List.mem_append]; exact .inl hm))
  · intro d hd
    rcases List.mem_append.1 hd with hd | hd
    · exact h.wf d hd
    · rw [List.mem_singleton.1 hd]
      exact ⟨hf, ht⟩
/-- Block b is the map of the links E. -/
def HasLinks (w : World) (b : Nat) (E : List Edge) : Prop := ∃ D : DataW Unit, w.ownsMap Try.prog 84 (plainElem Try.prog 3) b E.length D ∧ Says D E
theorem HasLinks.made (w : World) : HasLinks (w.alloc (.map #[] 0)) w.heap.size [] := ⟨_, World.ownsMap_made _ _ _ _, .nil⟩
theorem HasLinks.kept {w w' : World} {b : Nat} {E : List Edge} {row : Option Nat} (h : HasLinks w b E) (hg : w.grownBy w' row) (hne : some b ≠ row) : HasLinks w' b E := by
  obtain ⟨D, h1, h2⟩ := h
  exact ⟨D, h1.kept hg hne, h2⟩
/-- The weight that the list has for two ends, or 0. -/
def weightOf (E : List Edge) (a b : Int) : Int := ((E.find? fun e => e.key == (a, b)).map Edge.wt).getD 0
theorem weight_no {E : List Edge} {a b : Int} (h : (a, b) ∉ E.map Edge.key) : weightOf E a b = 0 := by
  unfold weightOf
  rw [List.find?_eq_none.2]
  · rfl
  · intro e he hk
    exact h (List.mem_map.2 ⟨e, he, by simpa using hk⟩)
theorem weight_yes {E : List Edge} {a b : Int} (h : (a, b) ∈ E.map Edge.key) : ∃ e ∈ E, e.key = (a, b) ∧ weightOf E a b = e.wt := by
  unfold weightOf
  cases hf : E.find? fun e => e.key == (a, b) with
  | none =>
    obtain ⟨e, he, hk⟩ := List.mem_map.1 h
    have := List.find?_eq_none.1 hf e he
    simp [hk] at this
  | some e => exact ⟨e, List.mem_of_find?_eq_some hf, by simpa using List.find?_some hf, rfl⟩
theorem own_look {w : World} {b n : Nat} {D : DataW Unit} {E : List Edge} (ho : w.ownsMap Try.prog 84 (plainElem Try.prog 3) b n D) (h : Says D E) {x y : Int} (hx : (Lit.int .i64 x).wf = true) (hy : (Lit.int .i64 y).wf = true) :
    (Instr.lookup 82 (.map (some b)) (.agg #[.int .i64 x, .int .i64 y]) false).run Try.prog w = .ok (.int .i64 (weightOf E x y)) w := by
  obtain ⟨c, hrun, hat, _⟩ := ho.lookup_int lawEnd Try.underlying82 Try.underlying3 (zeroInt w) (keyOf_end hx hy)
  have hc : c = weightOf E x y := by
    by_cases hm : (x, y) ∈ E.map Edge.key
    · obtain ⟨e, he, hk, hw⟩ := weight_yes hm
      have h1 := h.at_ e he (.lit (.int .i64 0))
      obtain ⟨rfl, rfl⟩ : e.fr = x ∧ e.to_ = y := by simpa [Edge.key] using hk
      rw [h1] at hat
      simp at hat
      rw [hw, hat]
    · rw [atKey_of_not_has (h.no x y hx hy hm)] at hat
      simp at hat
      rw [weight_no hm, ← hat]
  rw [hrun, hc]

end Go.Proofs.Ythapikakneikbaa
